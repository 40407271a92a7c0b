/-
  A law on whole structs: a struct stored into a variable that was made just now.
-/
import Derived.Deep.MidRow
import Derived.Laws.Rows
import Derived.Laws.CopyRow
import Derived.WalkKit
namespace Go.Proofs.Ytfphmkdcjbokeaa.RowLaws
open Go.RowKit
variable {P : Program}

theorem setRow_new (w : World) (t : TypeId) (zs cs : Array Value) : (w.alloc (.cells zs t)).setRow w.heap.size cs = w.alloc (.cells cs t) := by
  have h : (w.heap.push (.cells zs t)).modify w.heap.size (fun | .cells _ elem frozen => .cells cs elem frozen | o => o) = w.heap.push (.cells cs t) := by
    apply Array.ext_getElem?
    intro i
    rw [Array.getElem?_modify]
    by_cases hi : w.heap.size = i
    · subst hi
      simp
    · rw [if_neg hi, Array.getElem?_push, Array.getElem?_push, if_neg (fun e => hi e.symm), if_neg (fun e => hi e.symm)]
  show ({ w with heap := w.heap.push _ } : World).setRow _ _ = { w with heap := w.heap.push _ }
  unfold World.setRow
  exact congrArg (fun H => ({ w with heap := H } : World)) h

theorem run_store_new (w : World) (ty t : TypeId) (zs cs : Array Value) (hi : (P.info? ty).map (·.size) = some cs.size) (hz : zs.size = cs.size) (h1 : ∀ v ∈ cs.toList, v.oneCell' = true) :
    (storeVar ty ⟨w.heap.size, 0, none⟩ (.agg cs)).run P (w.alloc (.cells zs t)) = .ok () (w.alloc (.cells cs t)) := by
  cases hq : P.info? ty with
  | none => simp [hq] at hi
  | some i =>
    have hs : i.size = cs.size := by simpa [hq] using hi
    have hst := run_storeCells_at P w.heap.size 0 t cs.toList 0 zs (w.alloc (.cells zs t)) (heap_alloc_new w _) (by simp [hz]) h1
    have hcell : (Value.agg cs).cells = cs := rfl
    have hlen : zs.toList.length = cs.size := by simpa using hz
    have hd : zs.toList.drop cs.toList.length = [] := List.drop_eq_nil_of_le (by simp [hz])
    unfold storeVar
    simp only [Sem.run_bind, sizeOf, typeInfo, hcell]
    simp only [Nat.zero_add, List.take_zero, List.nil_append, hd, List.append_nil, Array.toArray_toList, setRow_new] at hst
    simp [hq, hs, hst]

theorem wpList_store_new {ops : Array Oper} {rest : List Oper} {op : Oper} {a : Act} {w : World} {Q : Exit → Act → World → Prop} (hgd : op.guard = none) (ty : TypeId) (x y : Operand) (ho : op.op = .store ty x y)
    (t : TypeId) (zs cs : Array Value) (hx : a.eval x = .pointer (some ⟨w.heap.size, 0, none⟩)) (hy : a.eval y = .agg cs)
    (hi : (P.info? ty).map (·.size) = some cs.size) (hz : zs.size = cs.size) (h1 : ∀ v ∈ cs.toList, v.oneCell' = true)
    (h : wpList P ops Q rest (a.put op.dst undef) (w.alloc (.cells cs t))) : wpList P ops Q (op :: rest) a (w.alloc (.cells zs t)) :=
  wpList_plain hgd fun _ hK => by
    unfold Oper.wp execOp
    simp only [ho, hx, hy, Instr.storeAt, Instr.sureAddr, Sem.run_bind, Sem.run_pure, Result.andThen_ok, run_store_new w ty t zs cs hi hz h1]
    exact hK _ _ h

theorem foldl_set (l : List Value) : ∀ (o : Nat) (acc : Array Value), o + l.length ≤ acc.size →
    ((l.zipIdx o).foldl (fun cs (x : Value × Nat) => cs.setIfInBounds x.2 x.1) acc) = (acc.toList.take o ++ l ++ acc.toList.drop (o + l.length)).toArray := by
  induction l with
  | nil => intro o acc h; simp
  | cons v r ih =>
    intro o acc h
    rw [List.zipIdx_cons, List.foldl_cons, ih (o + 1) _ (by simp at h ⊢; omega)]
    congr 1
    have ho : o < acc.toList.length := by simp at h ⊢; omega
    rw [Array.toList_setIfInBounds]
    apply List.ext_getElem?
    intro i
    simp only [List.getElem?_append, List.length_append, List.length_take, List.length_set, List.length_cons, List.getElem?_take, List.getElem?_drop, List.getElem?_set, List.getElem?_cons]
    have hl : acc.toList.length = acc.size := by simp
    rw [hl] at ho ⊢
    rw [Nat.min_eq_left (by omega), Nat.min_eq_left (by omega)]
    simp only [List.length_cons] at h
    by_cases h1 : i < o
    · simp [h1, show i < o + 1 by omega, show i < o + 1 + r.length by omega, show i < o + (r.length + 1) by omega, show ¬ o = i by omega]
    · by_cases h2 : i = o
      · subst h2
        simp [show i < i + 1 + r.length by omega, ho]
      · by_cases h3 : i < o + 1 + r.length
        · simp [h1, h3, show i < o + (r.length + 1) by omega, show ¬ i < o + 1 by omega, show ¬ i - o = 0 by omega, show i - (o + 1) = i - o - 1 by omega]
        · simp [h3, show ¬ i < o + (r.length + 1) by omega, show o + 1 + r.length + (i - (o + 1 + r.length)) = o + (r.length + 1) + (i - (o + (r.length + 1))) by omega]
          intro e
          omega

theorem run_build_one (w : World) (t e : TypeId) (i : TypeInfo) (z : Value) (cs : Array Value) (ht : P.underlying t = some (.slice e)) (hi : P.info? e = some i) (hz : i.zero = some z) (hs : i.size = cs.size) (hzs : z.cells.size = cs.size) (h0 : 0 < cs.size) (h24 : cs.size ≤ 16777216) :
    (Instr.buildSlice t 1 #[(0, .agg cs)]).run P w = .ok (.slice (some ⟨w.heap.size, 0, none⟩) 1 1) (w.alloc (.cells cs e)) := by
  have hcell : (Value.agg cs).cells = cs := rfl
  have hf : Instr.fill (fun i => some (i * cs.size, cs.size)) ((Array.range (1 * cs.size)).map (z.cells[· % z.cells.size]!)) [(0, .agg cs)] = some cs := by
    simp only [Instr.fill, hcell]
    rw [if_neg (by simp)]
    congr 1
    have := foldl_set cs.toList 0 ((Array.range (1 * cs.size)).map (z.cells[· % z.cells.size]!)) (by simp)
    rw [← Array.foldl_toList]
    simp only [Nat.zero_mul, Nat.zero_add, Array.toList_zipIdx]
    refine Eq.trans ?_ (this.trans ?_)
    · rfl
    · rw [List.drop_eq_nil_of_le (by simp)]
      simp
  unfold Instr.buildSlice
  simp only [Sem.run_bind, run_underlying ht, Result.andThen_ok, sizeOf, typeInfo]
  simp only [Nat.one_mul] at hf
  simp [hi, hs, hz, zeroValue, typeInfo, show ¬ 16777216 < cs.size by omega, show ¬ cs.size = 0 by omega, hf, newRow]

/-- A slice literal of one struct: its row is the struct's own cells. -/
theorem wpList_build_one {ops : Array Oper} {rest : List Oper} {op : Oper} {a : Act} {w : World} {Q : Exit → Act → World → Prop} (hgd : op.guard = none) (t : TypeId) (x : Operand) (ho : op.op = .buildSlice t 1 #[(0, x)])
    (e : TypeId) (cs : Array Value) (z : Value) (hx : a.eval x = .agg cs) (ht : P.underlying t = some (.slice e)) (hi : (P.info? e).map (fun i => (i.zero, i.size)) = some (some z, cs.size)) (hzs : z.cells.size = cs.size) (h0 : 0 < cs.size) (h24 : cs.size ≤ 16777216)
    (h : wpList P ops Q rest (a.put op.dst (.slice (some ⟨w.heap.size, 0, none⟩) 1 1)) (w.alloc (.cells cs e))) : wpList P ops Q (op :: rest) a w :=
  wpList_plain hgd fun _ hK => by
    cases hq : P.info? e with
    | none => simp [hq] at hi
    | some i =>
      simp only [hq, Option.map_some, Option.some.injEq, Prod.mk.injEq] at hi
      have hr := run_build_one (P := P) w t e i z cs ht hq hi.1 hi.2 hzs h0 h24
      unfold Oper.wp execOp
      simp only [ho, List.map_toArray, List.map_cons, List.map_nil, hx, Sem.run_bind, hr, Result.andThen_ok]
      exact hK _ _ h
end Go.Proofs.Ytfphmkdcjbokeaa.RowLaws
