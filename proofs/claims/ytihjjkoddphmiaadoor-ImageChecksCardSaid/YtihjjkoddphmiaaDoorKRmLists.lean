/-
  The room's copies whose elements are copies themselves: what holds while they are made.
-/
import Derived.Test.YtihjjkoddphmiaaDoorKRmInts
namespace Go.Proofs.YtihjjkoddphmiaaDoor.img
open Go.RowKit Go.Proofs.YtihjjkoddphmiaaDoorW.PrintWords Go.Proofs.YtihjjkoddphmiaaDoorW.PrintLast Go.Proofs.YtihjjkoddphmiaaDoorW.PrintMore Go.Proofs.YtihjjkoddphmiaaDoor.PImageRound
set_option linter.unusedVariables false
set_option linter.unusedSimpArgs false

/-- A block that serves for nothing in particular is written, or a new one. -/
theorem Rm.grown {w w1 : World} {ρ : Nat → Role} {base r K : Nat} {C : Array Value} (h : Rm w ρ base r C K) {row : Option Nat} (hg : w.grownBy w1 row) (hr : ∀ k, row = some k → ρ k = .work) : Rm w1 ρ base r C K := by
  have hn : ∀ k, ρ k ≠ .work → some k ≠ row := fun k hk e => hk (hr k e.symm)
  refine ⟨blk_grown h.blk hg (hn r (by rw [h.own]; intro e; cases e)), h.low, h.own, h.fresh.size hg.size, h.sz, h.f3, h.f4, h.fixed, fun x hx => (h.fld x hx).step (flds_stays hx) rfl (fun k ⟨_, hk⟩ ho => hg.block k (blk_lt hk) (hn k (by rw [ho]; intro e; cases e))) (fun _ _ h => h) ?_⟩
  rintro f j v ⟨hv, m, hm, hj⟩
  exact ⟨hg.cell hv (hn f (by rw [hm]; intro e; cases e)), m, hm, hj⟩
theorem Lies.grown {w w1 : World} {ρ : Nat → Role} {row : Option Nat} (hg : w.grownBy w1 row) (hr : ∀ k, row = some k → ρ k = .work) : Lies w ρ w1 ρ := fun f m o hf ho =>
  ⟨blk_grown ho hg (fun e => by have := hr f e.symm; rw [hf] at this; cases this), hf⟩
theorem FxLe.grown {w w1 : World} {ρ : Nat → Role} {row : Option Nat} (hg : w.grownBy w1 row) (hr : ∀ k, row = some k → ρ k = .work) : FxLe w ρ w1 ρ := by
  rintro f j v ⟨hv, m, hm, hj⟩
  exact ⟨hg.cell hv (fun e => by have := hr f e.symm; rw [hm] at this; cases this), m, hm, hj⟩

/-- What is said of an element's cells; of a mark's. -/
abbrev Ec (α : Type) := World → (Nat → Role) → α → List Value → Prop
def StayE {α : Type} (E : Ec α) : Prop := ∀ (w w' : World) (ρ ρ' : Nat → Role) (x : α) (us : List Value), Lies w ρ w' ρ' → E w ρ x us → E w' ρ' x us
def StayQ (Q : Ec Nat) : Prop := ∀ (w w' : World) (ρ ρ' : Nat → Role) (j : Nat) (us : List Value), FxLe w ρ w' ρ' → Q w ρ j us → Q w' ρ' j us
/-- A copy under construction whose elements were lent: so many elements, so many marks. -/
structure Cq {α : Type} (E : Ec α) (Q : Ec Nat) (w : World) (ρ : Nat → Role) (base r e sz : Nat) (xs : List α) (m : Nat) (v : Value) (wr : World) (ρr : Nat → Role) (C : Array Value) (K : Nat) (vals ms : List Value) : Prop where
  low : base ≤ w.heap.size
  rm : Rm wr ρr base r C K
  ext : Ext w ρ wr ρr
  bel : Below base w wr
  own : wr.ownsRow w.heap.size e sz v (xs.length + m) (vals ++ ms)
  work : ∀ k, v.ownBlock = some k → ρr k = .work
  el : Reps (E wr ρr) sz xs vals
  mks : Reps (Q wr ρr) sz (List.range m) ms
section
variable {α : Type} {E : Ec α} {Q : Ec Nat} {w wr w1 w2 W : World} {ρ ρr ρ2 : Nat → Role} {base r e sz m K K2 : Nat} {xs : List α} {x : α} {v v1 u : Value} {C C2 : Array Value} {vals ms us us' : List Value}
theorem Cq.start (h : Rm w ρ base r C K) (E : Ec α) (Q : Ec Nat) (cs : Array Value) (hcs : cs.size = 0) : Cq E Q w ρ base r e sz [] 0 (.slice (some ⟨w.heap.size, 0, none⟩) 0 0) (w.alloc (.cells cs e)) ρ C K [] [] := by
  have hb : Below w.heap.size w (w.alloc (.cells cs e)) := below_alloc (Below.refl _ _) _
  refine ⟨h.low_size, h.below hb, Ext.below hb, hb.mono h.low_size, World.ownsRow_made w cs 0 (Nat.le_refl _) (by decide) (by simpa using hcs), fun k hk => ?_, Reps.none _ _, Reps.none _ _⟩
  have : w.heap.size = k := by simpa [Value.ownBlock] using hk
  exact h.fresh k (by omega)
/-- A call of the room's has been made. -/
theorem Cq.call (h : Cq E Q w ρ base r e sz xs m v wr ρr C K vals ms) (hP : StayE E) (hQ : StayQ Q) (hR : Rm w2 ρ2 base r C2 K2) (hE : Ext wr ρr w2 ρ2) (hB : Below base wr w2) : Cq E Q w ρ base r e sz xs m v w2 ρ2 C2 K2 vals ms :=
  ⟨h.low, hR, h.ext.trans hE, h.bel.trans hB, own_move h.own (fun k hk => hE.keep k (own_lt h.own k hk) (by rw [h.work k hk]; intro e; cases e)), fun k hk => (hE.same k (own_lt h.own k hk)).trans (h.work k hk), h.el.imp_ (fun _ _ hp => hP _ _ _ _ _ _ hE.lies hp), h.mks.imp_ (fun _ _ hp => hQ _ _ _ _ _ _ hE.fx hp)⟩
/-- Memory of the call's own was made. -/
theorem Cq.below (h : Cq E Q w ρ base r e sz xs m v wr ρr C K vals ms) (hP : StayE E) (hQ : StayQ Q) (hb : Below wr.heap.size wr w2) : Cq E Q w ρ base r e sz xs m v w2 ρr C K vals ms :=
  h.call hP hQ (h.rm.below hb) (Ext.below hb) (hb.mono h.rm.low_size)
/-- A block's use is settled. -/
theorem Cq.settle (h : Cq E Q w ρ base r e sz xs m v wr ρr C K vals ms) (hP : StayE E) (hQ : StayQ Q) {f : Nat} (hf : ρr f = .work) (hlt : f < wr.heap.size) (hne : v.ownBlock ≠ some f) (hge : w.heap.size ≤ f) (y : Role) : Cq E Q w ρ base r e sz xs m v wr (up ρr f y) C K vals ms :=
  ⟨h.low, h.rm.settle hf hlt (Nat.le_trans h.low hge) y, h.ext.up hge y, h.bel, h.own, fun k hk => (up_ne _ (fun e => hne (by rw [hk, e]))).trans (h.work k hk), h.el.imp_ (fun _ _ hp => hP _ _ _ _ _ _ (Lies.up hf y) hp), h.mks.imp_ (fun _ _ hp => hQ _ _ _ _ _ _ (FxLe.up hf y) hp)⟩
/-- The row has grown: by elements. -/
theorem Cq.push (h : Cq E Q w ρ base r e sz xs 0 v wr ρr C K vals ms) (hP : StayE E) (hg : wr.grownBy w1 v.ownBlock) (ho : w1.ownsRow w.heap.size e sz v1 (xs.length + 0 + 1) ((vals ++ ms) ++ us)) (hat : v1.ownBlock = v.ownBlock ∨ v1.ownBlock = some wr.heap.size)
    (hx : E wr ρr x us) (hl : us.length = sz) : Cq E Q w ρ base r e sz (xs ++ [x]) 0 v1 w1 ρr C K (vals ++ us) [] := by
  have hms : ms = [] := List.eq_nil_of_length_eq_zero (by have := h.mks.1; simpa using this)
  subst hms
  have hLi : Lies wr ρr w1 ρr := Lies.grown hg h.work
  refine ⟨h.low, h.rm.grown hg h.work, h.ext.grown hg (fun k hk hlt => absurd (own_base h.own k hk) (by omega)), h.bel.grown hg h.rm.low_size (fun k hk => Nat.le_trans h.low (own_base h.own k hk)), ?_, fun k hk => ?_, Reps.snoc (h.el.imp_ (fun _ _ hp => hP _ _ _ _ _ _ hLi hp)) (hP _ _ _ _ _ _ hLi hx) hl, Reps.none _ _⟩
  · simpa using ho
  · rcases hat with hat | hat
    · exact h.work k (hat.symm.trans hk)
    · rw [hat] at hk
      injection hk with hk
      exact h.rm.fresh k (by omega)
/-- By two marks. -/
theorem Cq.push2 (h : Cq E Q w ρ base r e sz xs m v wr ρr C K vals ms) (hP : StayE E) (hQ : StayQ Q) (hg : wr.grownBy w1 v.ownBlock) (ho : w1.ownsRow w.heap.size e sz v1 (xs.length + m + 2) ((vals ++ ms) ++ (us ++ us'))) (hat : v1.ownBlock = v.ownBlock ∨ v1.ownBlock = some wr.heap.size)
    (hx : Q wr ρr m us) (hy : Q wr ρr (m + 1) us') (hl : us.length = sz) (hl' : us'.length = sz) : Cq E Q w ρ base r e sz xs (m + 2) v1 w1 ρr C K vals (ms ++ us ++ us') := by
  have hLi : Lies wr ρr w1 ρr := Lies.grown hg h.work
  have hFx : FxLe wr ρr w1 ρr := FxLe.grown hg h.work
  refine ⟨h.low, h.rm.grown hg h.work, h.ext.grown hg (fun k hk hlt => absurd (own_base h.own k hk) (by omega)), h.bel.grown hg h.rm.low_size (fun k hk => Nat.le_trans h.low (own_base h.own k hk)), ?_, fun k hk => ?_, h.el.imp_ (fun _ _ hp => hP _ _ _ _ _ _ hLi hp), ?_⟩
  · rw [show xs.length + m + 2 = xs.length + (m + 2) by omega] at ho
    simpa using ho
  · rcases hat with hat | hat
    · exact h.work k (hat.symm.trans hk)
    · rw [hat] at hk
      injection hk with hk
      exact h.rm.fresh k (by omega)
  · rw [List.range_succ, List.range_succ]
    exact Reps.snoc (Reps.snoc (h.mks.imp_ (fun _ _ hp => hQ _ _ _ _ _ _ hFx hp)) (hQ _ _ _ _ _ _ hFx hx) hl) (hQ _ _ _ _ _ _ hFx hy) hl'
/-- The row's block. -/
theorem Cq.form (h : Cq E Q w ρ base r e sz xs m v wr ρr C K vals ms) (hn : 0 < xs.length + m) : ∃ f cap cs, v = .slice (some ⟨f, 0, none⟩) (xs.length + m) cap ∧ w.heap.size ≤ f ∧ xs.length + m ≤ cap ∧ wr.heap[f]? = some (.cells cs e (0, 0)) ∧ ρr f = .work ∧ ∀ (j : Nat) (u : Value), (vals ++ ms)[j]? = some u → cs[j]? = some u := by
  have hw := h.work
  rcases h.own.2 with ⟨-, h0⟩ | ⟨f, cap, cs, rfl, hb, hh, hc, -, hs, ht⟩
  · omega
  · refine ⟨f, cap, cs, rfl, hb, hc, hh, hw f rfl, fun j u hu => ?_⟩
    rw [← ht, List.getElem?_take] at hu
    split at hu
    · simpa using hu
    · cases hu
end
/-- Cell i of element j. -/
theorem reps_cell {α : Type} {R : α → List Value → Prop} {sz : Nat} {xs : List α} {cs : List Value} (h : Reps R sz xs cs) {j : Nat} {x : α} (hx : xs[j]? = some x) : ∃ us, R x us ∧ us.length = sz ∧ ∀ (i : Nat) (u : Value), us[i]? = some u → cs[j * sz + i]? = some u := by
  refine ⟨_, h.2 j x hx, ?_, fun i u hu => ?_⟩
  · have hj : j < xs.length := (List.getElem?_eq_some_iff.1 hx).1
    have h1 : j * sz + sz ≤ cs.length := by rw [h.1, ← Nat.succ_mul]; exact Nat.mul_le_mul_right _ hj
    simp
    omega
  · rw [List.getElem?_take] at hu
    split at hu
    · rwa [List.getElem?_drop] at hu
    · cases hu
end Go.Proofs.YtihjjkoddphmiaaDoor.img
