import Derived.Test.YtihjjkoddphmiaaDoorKIm2
import Derived.StillTailTactics
import Derived.Deep.RegionHeld3
import Derived.Test.YtihjjkoddphmiaaDoorKIm1
import Derived.ArgAppend
import Derived.Lib.SlBytesConst
import Derived.Test.YtihjjkoddphmiaaDoorKIm3
namespace Go.Proofs.YtihjjkoddphmiaaDoor.img
open Go.RowKit Go.Proofs.YtihjjkoddphmiaaDoorW.PrintWords Go.Proofs.YtihjjkoddphmiaaDoorW.PrintMore Go.Proofs.YtihjjkoddphmiaaDoor.PImageRound
set_option linter.unusedVariables false
set_option linter.unusedSimpArgs false

end Go.Proofs.YtihjjkoddphmiaaDoor.img

namespace Go.Proofs.YtihjjkoddphmiaaDoor.img
open Go.RowKit Go.Proofs.YtihjjkoddphmiaaDoorW.PrintWords Go.Proofs.YtihjjkoddphmiaaDoorW.PrintMore Go.Proofs.YtihjjkoddphmiaaDoor.PImageRound
set_option linter.unusedVariables false
set_option linter.unusedSimpArgs false

/-- The row's cells may be written. -/
def NF (w : World) (A : Option Addr) (m : Nat) : Prop := ∀ ad, A = some ad → ∀ j, j < m → w.frozen? (ad.add j) = false
theorem getD_mem {α : Type} {l : List α} {i : Nat} {z : α} (h : i < l.length) : l.getD i z ∈ l := by
  rw [List.getD_eq_getElem?_getD, List.getElem?_eq_getElem h]
  exact List.getElem_mem h
theorem encI_ten {more n : Int} (h : n + more < 18446744073709551616) : (encI more n).length ≤ 10 := enc_ten (by omega)
theorem flat_len {α : Type} {E : α → List Int} {k : Nat} : ∀ {l : List α}, (∀ x ∈ l, (E x).length ≤ k) → (l.flatMap E).length ≤ l.length * k
  | [], _ => by simp
  | a :: l, h => by
    have h1 := h a (by simp)
    have h2 := flat_len (l := l) (fun x hx => h x (by simp [hx]))
    simp only [List.flatMap_cons, List.length_append, List.length_cons, Nat.add_mul]
    omega
end Go.Proofs.YtihjjkoddphmiaaDoor.img

namespace Go.Proofs.YtihjjkoddphmiaaDoor.img
open Go.RowKit Go.Proofs.YtihjjkoddphmiaaDoorW.PrintWords Go.Proofs.YtihjjkoddphmiaaDoorW.PrintMore Go.Proofs.YtihjjkoddphmiaaDoor.PImageRound
set_option linter.unusedVariables false
set_option linter.unusedSimpArgs false

/-- The numbers of all frames may be written. -/
def NF2 (w : World) (A : Option Addr) (m : Nat) : Prop := ∀ ad, A = some ad → ∀ j, j < m → ∀ F n f, w.cell? (ad.add j) = some (.slice F n f) → NF w F n
/-- The numbers of all slots may be written. -/
def NF3 (w : World) (A : Option Addr) (m : Nat) : Prop := ∀ ad, A = some ad → ∀ j, j < m → ∀ F n f, w.cell? (ad.add j) = some (.slice F n f) → NF2 w F n

end Go.Proofs.YtihjjkoddphmiaaDoor.img

namespace Go.Proofs.YtihjjkoddphmiaaDoor.img
open Go.RowKit Go.Proofs.YtihjjkoddphmiaaDoorW.PrintWords Go.Proofs.YtihjjkoddphmiaaDoorW.PrintMore Go.Proofs.YtihjjkoddphmiaaDoor.PImageRound
set_option linter.unusedVariables false
set_option linter.unusedSimpArgs false

/-- What is no row of bytes, not the writer and not the last serial, stays. -/
structure WStep2 (gw gl : Nat) (w w1 : World) : Prop where
  size : w.heap.size ≤ w1.heap.size
  keep : ∀ k t cs, k ≠ gw → k ≠ gl → t ≠ 5 → w.heap[k]? = some (.cells cs t (0, 0)) → w1.heap[k]? = some (.cells cs t (0, 0))
theorem WStep.two {gw gl : Nat} {w w1 : World} (h : WStep gw w w1) : WStep2 gw gl w w1 := ⟨h.size, fun k t cs h1 h2 h3 hc => h.keep k t cs h1 h3 hc⟩
theorem WStep2.trans {gw gl : Nat} {w w1 w2 : World} (h : WStep2 gw gl w w1) (h1 : WStep2 gw gl w1 w2) : WStep2 gw gl w w2 := ⟨Nat.le_trans h.size h1.size, fun k t cs hk hl ht hc => h1.keep k t cs hk hl ht (h.keep k t cs hk hl ht hc)⟩

/-- The object's walk: where it stands. -/
structure Ob (w0 : World) (gw gl : Nat) (w wi : World) (z : Int) (us : List Int) : Prop where
  wt : Wt w0 gw wi us
  st : WStep2 gw gl w wi
  gl : wi.heap[gl]? = some (.cells #[.int .u64 z] 25 (0, 0))
theorem Ob.cell {w0 w wi : World} {gw gl : Nat} {z : Int} {us : List Int} (h : Ob w0 gw gl w wi z us) (hw : Below w0.heap.size w0 w) {q : Addr} {v : Value} (hs : Safe w0 gw w q) (hq : q.block ≠ gl) (hv : w.cell? q = some v) : wi.cell? q = some v := by
  refine (cell_block ?_).trans hv
  rcases hs with hs | ⟨t, cs, hne, ht, hc⟩
  · rw [hw.block _ hs, h.wt.bel.block _ hs]
  · rw [hc]; exact h.st.keep _ _ _ hne hq ht hc
theorem Ob.old {w0 w wi : World} {gw gl : Nat} {z : Int} {us : List Int} (h : Ob w0 gw gl w wi z us) {q : Addr} {v : Value} (hv : w0.cell? q = some v) : wi.cell? q = some v := (cell_block (h.wt.bel.block _ (World.block_lt_of_cell? _ _ hv))).trans hv
theorem Ob.free {w0 w wi : World} {gw gl : Nat} {z : Int} {us : List Int} (h : Ob w0 gw gl w wi z us) {q : Addr} (hb : q.block < w0.heap.size) (hf : w0.frozen? q = false) : wi.frozen? q = false := (frozen_block (h.wt.bel.block _ hb)).trans hf
theorem Ob.next {w0 w wi wj : World} {gw gl : Nat} {z : Int} {us vs : List Int} (h : Ob w0 gw gl w wi z us) (hne : gl ≠ gw) (h1 : Wt w0 gw wj vs) (h2 : WStep gw wi wj) : Ob w0 gw gl w wj z vs := ⟨h1, h.st.trans h2.two, h2.keep _ _ _ hne (by decide) h.gl⟩
theorem Ob.drew {w0 w wi wj : World} {gw gl : Nat} {z : Int} {us : List Int} (h : Ob w0 gw gl w wi z us) (hne : gl ≠ gw) (hb : Below wi.heap.size wi wj) : Ob w0 gw gl w wj z us := h.next hne (h.wt.after hb) (WStep.of_below hb)
theorem Ob.set {w0 w wi : World} {gw gl : Nat} {z y : Int} {us : List Int} (h : Ob w0 gw gl w wi z us) (hne : gl ≠ gw) (h0 : w0.heap.size ≤ gl) : Ob w0 gw gl w (wi.setCell ⟨gl, 0, none⟩ (.int .u64 y)) y us := by
  obtain ⟨v, h1, h2⟩ := h.wt.row
  refine ⟨⟨below_set h.wt.bel h0, h.wt.old, v, blk_far h1 (fun e => hne e.symm) _, Kd.R_set h2 h.gl (by decide) _ _⟩, ⟨?_, ?_⟩, one_setCell h.gl⟩
  · have := h.st.size
    simpa using this
  · intro k t cs hk hl ht hc
    exact blk_far (h.st.keep k t cs hk hl ht hc) hl _

end Go.Proofs.YtihjjkoddphmiaaDoor.img

namespace Go.Proofs.YtihjjkoddphmiaaDoor.img
open Go.RowKit Go.Proofs.YtihjjkoddphmiaaDoorW.PrintWords Go.Proofs.YtihjjkoddphmiaaDoorW.PrintMore Go.Proofs.YtihjjkoddphmiaaDoor.PImageRound
set_option linter.unusedVariables false
set_option linter.unusedSimpArgs false

section
variable {σ α : Type}
end

/-- An object that a writer can lay down. -/
def okW (last : Int) (o : S62) : Prop := (0 ≤ last ∧ last ≤ o.f0 ∧ o.f0 ≤ 4611686018427387905) ∧ (0 ≤ o.f1 ∧ o.f1 ≤ 4611686018427387905) ∧ (0 ≤ o.f2 ∧ o.f2 ≤ 4611686018427387905) ∧ (o.f3.length ≤ 1000000 ∧ ∀ x ∈ o.f3, 0 ≤ x + 0 ∧ x + 0 ≤ 4611686018427387905) ∧ (o.f4.length ≤ 1000000 ∧ ∀ x ∈ o.f4, 0 ≤ x ∧ x < 18446744073709551616)
/-- The objects' cells may be written. -/
def NFO (w : World) (A : Option Addr) (m : Nat) : Prop := ∀ ad, A = some ad → ∀ j, j < m → w.frozen? (ad.add (j * 5)) = false ∧ w.frozen? ⟨(ad.add (j * 5)).block, (ad.add (j * 5)).off + 1, none⟩ = false ∧ w.frozen? ⟨(ad.add (j * 5)).block, (ad.add (j * 5)).off + 2, none⟩ = false ∧ ∀ F n f, w.cell? ⟨(ad.add (j * 5)).block, (ad.add (j * 5)).off + 3, none⟩ = some (.slice F n f) → NF w F n

end Go.Proofs.YtihjjkoddphmiaaDoor.img

namespace Go.Proofs.YtihjjkoddphmiaaDoor.img
open Go.RowKit Go.Proofs.YtihjjkoddphmiaaDoorW.PrintWords Go.Proofs.YtihjjkoddphmiaaDoorW.PrintMore Go.Proofs.YtihjjkoddphmiaaDoor.PImageRound
set_option linter.unusedVariables false
set_option linter.unusedSimpArgs false

/-- The head's own row. -/
structure WI (w : World) (base : Nat) (v : Value) (bs : List Int) : Prop where
  mk ::
  out : ∃ g, v = .slice (some ⟨g, 0, none⟩) 4 4 ∧ bs = head ∧ base ≤ g ∧ w.heap[g]? = some (.cells #[.int .u8 77, .int .u8 68, .int .u8 73, .int .u8 49] 5 (4, 5))
/-- A row that may be the head's own. -/
def WR (w : World) (base : Nat) (v : Value) (bs : List Int) : Prop := Kd.R (Kd.int .u8) 5 w base (fun _ => True) v bs ∨ WI w base v bs
theorem WR.ne {w : World} {base : Nat} {v : Value} {bs : List Int} (h : WR w base v bs) {g t : Nat} {cs : Array Value} (hb : w.heap[g]? = some (.cells cs t (0, 0))) (ht : 5 ≠ t) : some g ≠ v.ownBlock := by
  rcases h with h | h
  · exact Kd.R_ne h hb ht
  · obtain ⟨g', rfl, -, -, hg⟩ := h.out
    intro e
    simp only [Value.ownBlock, Option.some.injEq] at e
    subst e
    rw [hb] at hg
    simp at hg
theorem WR.slice {w : World} {base : Nat} {v : Value} {bs : List Int} (h : WR w base v bs) : ∃ A c, v = .slice A bs.length c := by
  rcases h with h | h
  · exact Kd.R_slice h
  · obtain ⟨g', rfl, rfl, -, hg⟩ := h.out
    exact ⟨_, _, rfl⟩
theorem WR.below {w w1 : World} {base : Nat} {v : Value} {bs : List Int} (h : WR w base v bs) (hb : Below w.heap.size w w1) : WR w1 base v bs := by
  rcases h with h | h
  · exact .inl (Kd.R_below h hb)
  · obtain ⟨g', rfl, rfl, h1, hg⟩ := h.out
    exact .inr ⟨g', rfl, rfl, h1, (hb.block _ (blk_lt hg)).trans hg⟩
section
variable {P : Program} {ops : Array Oper} {rest : List Oper} {o : Oper} {a : Act} {Q : Exit → Act → World → Prop}
end

/-- The writer's block where the row may be the head's own. -/
structure Wx (w0 : World) (gw : Nat) (w : World) (bs : List Int) : Prop where
  bel : Below w0.heap.size w0 w
  old : w0.heap.size ≤ gw
  row : ∃ v, w.heap[gw]? = some (.cells #[v] 75 (0, 0)) ∧ WR w w0.heap.size v bs
theorem Wt.wx {w0 w : World} {gw : Nat} {bs : List Int} (h : Wt w0 gw w bs) : Wx w0 gw w bs := ⟨h.bel, h.old, h.row.imp fun v hv => ⟨hv.1, .inl hv.2⟩⟩
theorem Wx.after {w0 : World} {gw : Nat} {w w1 : World} {bs : List Int} (h : Wx w0 gw w bs) (hb : Below w.heap.size w w1) : Wx w0 gw w1 bs := by
  obtain ⟨v, h1, h2⟩ := h.row
  exact ⟨below_step h.bel hb, h.old, v, blk_below h1 hb, h2.below hb⟩
theorem Wx.push {w0 : World} {gw : Nat} {w w1 : World} {v v1 : Value} {bs : List Int} {x : Int} (h0 : w0.heap.size ≤ gw) (h1 : w.heap[gw]? = some (.cells #[v] 75 (0, 0))) (h2 : WR w w0.heap.size v bs) (hg : w.grownBy w1 v.ownBlock) (hb : Below w0.heap.size w0 w1) (hW : Kd.R (Kd.int .u8) 5 w1 w0.heap.size (fun _ => True) v1 (bs ++ [x])) :
    Wt w0 gw (w1.setCell ⟨gw, 0, none⟩ v1) (bs ++ [x]) ∧ WStep gw w (w1.setCell ⟨gw, 0, none⟩ v1) := by
  have e2 := blk_grown h1 hg (h2.ne h1 (by decide))
  refine ⟨⟨below_set hb h0, h0, v1, one_setCell e2, Kd.R_set hW e2 (by decide) _ _⟩, ?_, ?_⟩
  · have := hg.size
    simpa using this
  · intro k t cs hk ht hc
    exact blk_far (blk_grown hc hg (h2.ne hc (fun e => ht e.symm))) hk _

end Go.Proofs.YtihjjkoddphmiaaDoor.img

namespace Go.Proofs.YtihjjkoddphmiaaDoor.img
open Go.RowKit Go.Proofs.YtihjjkoddphmiaaDoorW.PrintWords Go.Proofs.YtihjjkoddphmiaaDoorW.PrintMore Go.Proofs.YtihjjkoddphmiaaDoor.PImageRound
set_option linter.unusedVariables false
set_option linter.unusedSimpArgs false

/-- The walk over a whole graph: where it stands. -/
structure WA (w0 : World) (gw gg gq gf : Nat) (cg : Array Value) (us : List Int) (wi : World) : Prop where
  wt : Wt w0 gw wi us
  g : wi.heap[gg]? = some (.cells cg 27 (0, 0))
  q : wi.heap[gq]? = some (.cells #[.iface 73 (.pointer (some ⟨gw, 0, none⟩))] 111 (0, 0))
  f : wi.heap[gf]? = some (.cells #[.func (.func 66) #[] #[.pointer (some ⟨gq, 0, none⟩)]] 114 (0, 0))
section
variable {w0 wi wj : World} {gw gg gq gf : Nat} {cg : Array Value} {us vs : List Int}
theorem blk_writer {bs : List Int} (h : Wt w0 gw wi bs) {k t : Nat} {cs : Array Value} (hb : wi.heap[k]? = some (.cells cs t (0, 0))) (ht : t ≠ 75) : k ≠ gw := by
  obtain ⟨v, hv, -⟩ := h.row
  exact blk_ne hb hv ht
theorem WA.step (h : WA w0 gw gg gq gf cg us wi) (hw : Wt w0 gw wj vs) (hs : WStep gw wi wj) : WA w0 gw gg gq gf cg vs wj :=
  ⟨hw, hs.keep _ _ _ (blk_writer h.wt h.g (by decide)) (by decide) h.g, hs.keep _ _ _ (blk_writer h.wt h.q (by decide)) (by decide) h.q, hs.keep _ _ _ (blk_writer h.wt h.f (by decide)) (by decide) h.f⟩
theorem WA.below (h : WA w0 gw gg gq gf cg us wi) (hb : Below wi.heap.size wi wj) : WA w0 gw gg gq gf cg us wj := h.step (h.wt.after hb) (WStep.of_below hb)
theorem WA.cf (h : WA w0 gw gg gq gf cg us wi) : wi.cell? ⟨gf, 0, none⟩ = some (.func (.func 66) #[] #[.pointer (some ⟨gq, 0, none⟩)]) := (blk_cell h.f 0).trans rfl
end

/-- The walk over a whole graph, nothing laid down yet. -/
structure WA0 (w0 : World) (gw gg gq gf : Nat) (cg : Array Value) (us : List Int) (wi : World) : Prop where
  wt : Wx w0 gw wi us
  g : wi.heap[gg]? = some (.cells cg 27 (0, 0))
  q : wi.heap[gq]? = some (.cells #[.iface 73 (.pointer (some ⟨gw, 0, none⟩))] 111 (0, 0))
  f : wi.heap[gf]? = some (.cells #[.func (.func 66) #[] #[.pointer (some ⟨gq, 0, none⟩)]] 114 (0, 0))
theorem blk_writer0 {w0 wi : World} {gw : Nat} {bs : List Int} (h : Wx w0 gw wi bs) {k t : Nat} {cs : Array Value} (hb : wi.heap[k]? = some (.cells cs t (0, 0))) (ht : t ≠ 75) : k ≠ gw := by
  obtain ⟨v, hv, -⟩ := h.row
  exact blk_ne hb hv ht
section
variable {w0 wi wj : World} {gw gg gq gf : Nat} {cg : Array Value} {us vs : List Int}
theorem WA0.step (h : WA0 w0 gw gg gq gf cg us wi) (hw : Wt w0 gw wj vs) (hs : WStep gw wi wj) : WA w0 gw gg gq gf cg vs wj :=
  ⟨hw, hs.keep _ _ _ (blk_writer0 h.wt h.g (by decide)) (by decide) h.g, hs.keep _ _ _ (blk_writer0 h.wt h.q (by decide)) (by decide) h.q, hs.keep _ _ _ (blk_writer0 h.wt h.f (by decide)) (by decide) h.f⟩
theorem WA0.below (h : WA0 w0 gw gg gq gf cg us wi) (hb : Below wi.heap.size wi wj) : WA0 w0 gw gg gq gf cg us wj := ⟨h.wt.after hb, blk_below h.g hb, blk_below h.q hb, blk_below h.f hb⟩
end

/-- What is laid down of a graph behind the head. -/
def rest (g : Gr) : List Int := enc g.next.toNat ++ ((enc g.objs.length ++ encOs 0 g.objs) ++ (encL (encL (encL (encI 0))) g.slots ++ (encL (encI 1) g.handles ++ encL (encI 0) g.queue)))

end Go.Proofs.YtihjjkoddphmiaaDoor.img
