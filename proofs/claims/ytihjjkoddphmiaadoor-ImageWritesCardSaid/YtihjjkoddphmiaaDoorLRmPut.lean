/-
  A number in what was lent is another one: what lies there is a graph of the same shape.
-/
import Derived.Test.YtihjjkoddphmiaaDoorLRmHoldL
namespace Go.Proofs.YtihjjkoddphmiaaDoor.img
open Go.RowKit Go.Proofs.YtihjjkoddphmiaaDoorW.PrintWords Go.Proofs.YtihjjkoddphmiaaDoorW.PrintLast Go.Proofs.YtihjjkoddphmiaaDoorW.PrintMore Go.Proofs.YtihjjkoddphmiaaDoor.PImageRound
set_option linter.unusedVariables false
set_option linter.unusedSimpArgs false

theorem list_ex {α β : Type} {R : Nat → α → β → Prop} : ∀ (xs : List α), (∀ (j : Nat) (x : α), xs[j]? = some x → ∃ x', R j x x') → ∃ xs' : List β, xs'.length = xs.length ∧ ∀ (j : Nat) (x : α) (x' : β), xs[j]? = some x → xs'[j]? = some x' → R j x x' := by
  intro xs
  induction xs generalizing R with
  | nil => intro _; exact ⟨[], rfl, fun j x x' h => by simp at h⟩
  | cons a r ih =>
    intro h
    obtain ⟨a', ha⟩ := h 0 a rfl
    obtain ⟨r', hl, hr⟩ := ih (R := fun j => R (j + 1)) (fun j x hx => h (j + 1) x hx)
    refine ⟨a' :: r', by simp [hl], fun j x x' hx hx' => ?_⟩
    cases j with
    | zero =>
      simp only [List.getElem?_cons_zero, Option.some.injEq] at hx hx'
      subst hx hx'
      exact ha
    | succ j => exact hr j x x' (by simpa using hx) (by simpa using hx')

/-- What may be written where. -/
def PutOk (t : Nat) (k : IntKind) (y : Int) (i : Nat) : Prop := (t = 3 ∧ k = .i64) ∨ (t = 25 ∧ k = .u64 ∧ 0 ≤ y ∧ y < 18446744073709551616) ∨ (t = 62 ∧ k = .i64 ∧ i % 5 = 2)
def inW (x : Int) : Prop := 0 ≤ x ∧ x < 18446744073709551616
section
variable {w : World} {ρ : Nat → Role} {f t i : Nat} {k : IntKind} {y : Int} {cs : Array Value}
theorem LI.put {k0 : IntKind} {t0 : Nat} {v : Value} {xs : List Int} (h : LI k0 t0 w ρ v xs) (hf : w.heap[f]? = some (.cells cs t (0, 0))) (hp : PutOk t k y i) (h0 : (t0 = 3 ∧ k0 = .i64) ∨ (t0 = 25 ∧ k0 = .u64)) :
    ∃ xs' : List Int, xs'.length = xs.length ∧ LI k0 t0 (w.setCell ⟨f, i, none⟩ (.int k y)) ρ v xs' ∧ (t0 = 25 → (∀ x ∈ xs, inW x) → ∀ x ∈ xs', inW x) := by
  obtain ⟨f0, c, cs0, m, e, h1, h2, h3, h4, h5, h6⟩ := h
  by_cases ef : f0 = f
  · subst ef
    rw [h3] at hf
    injection hf with hf
    injection hf with hcs ht _
    subst hcs ht
    have hk : k = k0 ∧ (t0 = 25 → inW y) := by
      rcases h0 with ⟨a', b'⟩ | ⟨a', b'⟩
      · rcases hp with ⟨a, b⟩ | ⟨a, b, c1, c2⟩ | ⟨a, b, -⟩
        · exact ⟨b.trans b'.symm, fun h => absurd (a'.symm.trans h) (by decide)⟩
        · exact absurd (a'.symm.trans a) (by decide)
        · exact absurd (a'.symm.trans a) (by decide)
      · rcases hp with ⟨a, b⟩ | ⟨a, b, c1, c2⟩ | ⟨a, b, -⟩
        · exact absurd (a'.symm.trans a) (by decide)
        · exact ⟨b.trans b'.symm, fun _ => ⟨c1, c2⟩⟩
        · exact absurd (a'.symm.trans a) (by decide)
    obtain ⟨rfl, hy⟩ := hk
    refine ⟨xs.set i y, by simp, ⟨f0, c, cs0.setIfInBounds i (.int k y), m, by simpa using e, by simpa using h1, by simpa using h2, blk_set h3 i _, h4, by simpa using h5, fun j x hx => ?_⟩, fun ht hw x hx => ?_⟩
    · rw [List.getElem?_set] at hx
      by_cases ei : i = j
      · subst ei
        rw [if_pos rfl] at hx
        split at hx
        · rename_i hlt
          injection hx with hx
          subst hx
          obtain ⟨u, hu, -⟩ := h6 i _ (List.getElem?_eq_getElem hlt)
          have hs : i < cs0.size := (Array.getElem?_eq_some_iff.1 hu).1
          exact ⟨.int k y, by simp [hs], rfl⟩
        · cases hx
      · rw [if_neg ei] at hx
        obtain ⟨u, hu, hpu⟩ := h6 j x hx
        refine ⟨u, ?_, hpu⟩
        rw [Array.getElem?_setIfInBounds, if_neg ei]
        exact hu
    · rcases List.mem_or_eq_of_mem_set hx with hx | hx
      · exact hw x hx
      · rw [hx]; exact hy ht
  · exact ⟨xs, rfl, ⟨f0, c, cs0, m, e, h1, h2, (Below.heap_setCell w ⟨f, i, none⟩ _ f0 ef).trans h3, h4, h5, h6⟩, fun _ h => h⟩
/-- A list of lists: the lists within it are others. -/
theorem LL.put {α : Type} {P : El α} {S : α → α → Prop} {t0 : Nat} {v : Value} {xs : List α} (h : LL P t0 w ρ v xs) (hf : w.heap[f]? = some (.cells cs t (0, 0))) (ht : t0 ≠ t) (u : Value)
    (hP : ∀ v x, P w ρ v x → ∃ x', S x x' ∧ P (w.setCell ⟨f, i, none⟩ u) ρ v x') : ∃ xs' : List α, xs'.length = xs.length ∧ LL P t0 (w.setCell ⟨f, i, none⟩ u) ρ v xs' ∧ ∀ (j : Nat) (x x' : α), xs[j]? = some x → xs'[j]? = some x' → S x x' := by
  obtain ⟨f0, c, cs0, m, e, h1, h2, h3, h4, h5, h6⟩ := h
  have ef : f0 ≠ f := blk_ne h3 hf ht
  obtain ⟨xs', hl, hx'⟩ := list_ex (R := fun j x x' => S x x' ∧ ∃ v', cs0[j]? = some v' ∧ P (w.setCell ⟨f, i, none⟩ u) ρ v' x') xs (fun j x hx => by
    obtain ⟨v', hv', hp⟩ := h6 j x hx
    obtain ⟨x', hs, hp'⟩ := hP v' x hp
    exact ⟨x', hs, v', hv', hp'⟩)
  refine ⟨xs', hl, ⟨f0, c, cs0, m, by rw [hl]; exact e, by rw [hl]; exact h1, by rw [hl]; exact h2, (Below.heap_setCell w ⟨f, i, none⟩ _ f0 ef).trans h3, h4, by rw [hl]; exact h5, fun j x' hj => ?_⟩, fun j x x' hx hj => (hx' j x x' hx hj).1⟩
  have hlt : j < xs.length := by rw [← hl]; exact (List.getElem?_eq_some_iff.1 hj).1
  exact (hx' j _ x' (List.getElem?_eq_getElem hlt) hj).2
/-- What an object's shape is. -/
def osh (o : S62) : Int × Int × Nat × Nat := (o.f0, o.f1, o.f3.length, o.f4.length)
def SimO (o o' : S62) : Prop := osh o' = osh o ∧ ((∀ x ∈ o.f4, inW x) → ∀ x ∈ o'.f4, inW x)
theorem LO.put {v : Value} {xs : List S62} (h : LO w ρ v xs) (hf : w.heap[f]? = some (.cells cs t (0, 0))) (hp : PutOk t k y i) :
    ∃ xs' : List S62, xs'.length = xs.length ∧ LO (w.setCell ⟨f, i, none⟩ (.int k y)) ρ v xs' ∧ ∀ (j : Nat) (x x' : S62), xs[j]? = some x → xs'[j]? = some x' → SimO x x' := by
  obtain ⟨f0, c, cs0, m, e, h1, h2, h3, h4, h5, h6⟩ := h
  obtain ⟨cs1, hb1, hc1⟩ : ∃ cs1 : Array Value, (w.setCell ⟨f, i, none⟩ (.int k y)).heap[f0]? = some (.cells cs1 62 (0, 0)) ∧ ∀ (j : Nat) (o : S62) (v3 v4 : Value), (cs0[j * 5]? = some (.int .u64 o.f0) ∧ cs0[j * 5 + 1]? = some (.int .i64 o.f1) ∧ cs0[j * 5 + 2]? = some (.int .i64 o.f2) ∧ cs0[j * 5 + 3]? = some v3 ∧ cs0[j * 5 + 4]? = some v4) →
      ∃ s : Int, cs1[j * 5]? = some (.int .u64 o.f0) ∧ cs1[j * 5 + 1]? = some (.int .i64 o.f1) ∧ cs1[j * 5 + 2]? = some (.int .i64 s) ∧ cs1[j * 5 + 3]? = some v3 ∧ cs1[j * 5 + 4]? = some v4 := by
    by_cases ef : f0 = f
    · subst ef
      rw [h3] at hf
      injection hf with hf
      injection hf with hcs ht _
      subst hcs ht
      have hi : k = .i64 ∧ i % 5 = 2 := by
        rcases hp with ⟨a, b⟩ | ⟨a, b, c1, c2⟩ | ⟨a, b, c1⟩
        · omega
        · omega
        · exact ⟨b, c1⟩
      obtain ⟨rfl, hi⟩ := hi
      refine ⟨cs0.setIfInBounds i (.int .i64 y), blk_set h3 i _, fun j o v3 v4 ⟨a0, a1, a2, a3, a4⟩ => ?_⟩
      by_cases ei : i = j * 5 + 2
      · subst ei
        have hs : j * 5 + 2 < cs0.size := (Array.getElem?_eq_some_iff.1 a2).1
        refine ⟨y, ?_, ?_, by simp [hs], ?_, ?_⟩
        · rw [Array.getElem?_setIfInBounds, if_neg (by omega)]; exact a0
        · rw [Array.getElem?_setIfInBounds, if_neg (by omega)]; exact a1
        · rw [Array.getElem?_setIfInBounds, if_neg (by omega)]; exact a3
        · rw [Array.getElem?_setIfInBounds, if_neg (by omega)]; exact a4
      · refine ⟨o.f2, ?_, ?_, ?_, ?_, ?_⟩
        · rw [Array.getElem?_setIfInBounds, if_neg (by omega)]; exact a0
        · rw [Array.getElem?_setIfInBounds, if_neg (by omega)]; exact a1
        · rw [Array.getElem?_setIfInBounds, if_neg (by omega)]; exact a2
        · rw [Array.getElem?_setIfInBounds, if_neg (by omega)]; exact a3
        · rw [Array.getElem?_setIfInBounds, if_neg (by omega)]; exact a4
    · exact ⟨cs0, (Below.heap_setCell w ⟨f, i, none⟩ _ f0 ef).trans h3, fun j o v3 v4 h => ⟨o.f2, h⟩⟩
  obtain ⟨xs', hl, hx'⟩ := list_ex (R := fun j o o' => SimO o o' ∧ ∃ v3 v4, cs1[j * 5]? = some (.int .u64 o'.f0) ∧ cs1[j * 5 + 1]? = some (.int .i64 o'.f1) ∧ cs1[j * 5 + 2]? = some (.int .i64 o'.f2) ∧ cs1[j * 5 + 3]? = some v3 ∧ cs1[j * 5 + 4]? = some v4 ∧
      LI .i64 3 (w.setCell ⟨f, i, none⟩ (.int k y)) ρ v3 o'.f3 ∧ LI .u64 25 (w.setCell ⟨f, i, none⟩ (.int k y)) ρ v4 o'.f4) xs (fun j o hx => by
    obtain ⟨v3, v4, a0, a1, a2, a3, a4, p3, p4⟩ := h6 j o hx
    obtain ⟨s, b0, b1, b2, b3, b4⟩ := hc1 j o v3 v4 ⟨a0, a1, a2, a3, a4⟩
    obtain ⟨l3, e3, q3, -⟩ := p3.put hf hp (.inl ⟨rfl, rfl⟩)
    obtain ⟨l4, e4, q4, w4⟩ := p4.put hf hp (.inr ⟨rfl, rfl⟩)
    exact ⟨⟨o.f0, o.f1, s, l3, l4⟩, ⟨by simp [osh, e3, e4], w4 rfl⟩, v3, v4, b0, b1, b2, b3, b4, q3, q4⟩)
  refine ⟨xs', hl, ⟨f0, c, cs1, m, by rw [hl]; exact e, by rw [hl]; exact h1, by rw [hl]; exact h2, hb1, h4, by rw [hl]; exact h5, fun j o' hj => ?_⟩, fun j x x' hx hj => (hx' j x x' hx hj).1⟩
  have hlt : j < xs.length := by rw [← hl]; exact (List.getElem?_eq_some_iff.1 hj).1
  exact (hx' j _ o' (List.getElem?_eq_getElem hlt) hj).2
def WordsG (g : Gr) : Prop := ∀ o ∈ g.objs, ∀ x ∈ o.f4, inW x
/-- Graphs of one shape. -/
structure Sim (g g' : Gr) : Prop where
  next : g'.next = g.next
  objs : g'.objs.map osh = g.objs.map osh
  slots : g'.slots.map (List.map List.length) = g.slots.map (List.map List.length)
  handles : g'.handles.length = g.handles.length
  registry : g'.registry.length = g.registry.length
  queue : g'.queue.length = g.queue.length
  words : WordsG g → WordsG g'
theorem Sim.refl (g : Gr) : Sim g g := ⟨rfl, rfl, rfl, rfl, rfl, rfl, fun h => h⟩
theorem Sim.trans {a b c : Gr} (h : Sim a b) (k : Sim b c) : Sim a c :=
  ⟨k.next.trans h.next, k.objs.trans h.objs, k.slots.trans h.slots, k.handles.trans h.handles, k.registry.trans h.registry, k.queue.trans h.queue, fun x => k.words (h.words x)⟩
theorem map_eq {α β : Type} {φ : α → β} {xs xs' : List α} (hl : xs'.length = xs.length) (h : ∀ (j : Nat) (x x' : α), xs[j]? = some x → xs'[j]? = some x' → φ x' = φ x) : xs'.map φ = xs.map φ := by
  apply List.ext_getElem?
  intro j
  rw [List.getElem?_map, List.getElem?_map]
  by_cases hj : j < xs.length
  · rw [List.getElem?_eq_getElem hj, List.getElem?_eq_getElem (by omega), Option.map_some, Option.map_some, h j _ _ (List.getElem?_eq_getElem hj) (List.getElem?_eq_getElem (by omega))]
  · rw [List.getElem?_eq_none (by omega), List.getElem?_eq_none (by omega)]
theorem Lent.put {L : Lay} {g : Gr} (h : Lent w ρ L g) (hf : w.heap[f]? = some (.cells cs t (0, 0))) (hp : PutOk t k y i) : ∃ g', Sim g g' ∧ Lent (w.setCell ⟨f, i, none⟩ (.int k y)) ρ L g' := by
  have ht : 24 ≠ t ∧ 31 ≠ t := by rcases hp with ⟨a, -⟩ | ⟨a, -⟩ | ⟨a, -⟩ <;> omega
  obtain ⟨objs, lo, ho, so⟩ := h.l0.put hf hp
  obtain ⟨slots, ls, hs, ss⟩ := h.l1.put (S := fun a b => b.map List.length = a.map List.length) hf ht.2 (.int k y) (fun v x hx => by
    obtain ⟨x', lx, px, sx⟩ := LL.put (S := fun (a b : List Int) => b.length = a.length) hx hf ht.1 (.int k y) (fun v l hl => by
      obtain ⟨l', e, q, -⟩ := LI.put hl hf hp (.inl ⟨rfl, rfl⟩)
      exact ⟨l', e, q⟩)
    exact ⟨x', map_eq lx sx, px⟩)
  obtain ⟨handles, lh, hh, -⟩ := h.l2.put hf hp (.inl ⟨rfl, rfl⟩)
  obtain ⟨registry, lr, hr, -⟩ := h.l3.put hf hp (.inl ⟨rfl, rfl⟩)
  obtain ⟨queue, lq, hq, -⟩ := h.l4.put hf hp (.inl ⟨rfl, rfl⟩)
  refine ⟨⟨objs, slots, handles, registry, queue, g.next⟩, ⟨rfl, map_eq lo (fun j x x' hx hx' => (so j x x' hx hx').1), map_eq ls ss, lh, lr, lq, fun hw o' ho' x hx => ?_⟩, ⟨by simpa only [lo] using ho, by simpa only [ls] using hs, by simpa only [lh] using hh, by simpa only [lr] using hr, by simpa only [lq] using hq⟩⟩
  obtain ⟨j, hj, rfl⟩ := List.getElem_of_mem ho'
  have hjl : j < g.objs.length := by simpa [lo] using hj
  exact (so j _ _ (List.getElem?_eq_getElem hjl) (List.getElem?_eq_getElem hj)).2 (fun x hx => hw _ (List.getElem_mem hjl) x hx) x hx
end
end Go.Proofs.YtihjjkoddphmiaaDoor.img
