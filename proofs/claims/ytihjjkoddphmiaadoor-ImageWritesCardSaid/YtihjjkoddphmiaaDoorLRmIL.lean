/-
  The walks of the room's IntLists and Frames.
-/
import Derived.Test.YtihjjkoddphmiaaDoorLRmInts
namespace Go.Proofs.YtihjjkoddphmiaaDoor.img
open Go.RowKit Go.Proofs.YtihjjkoddphmiaaDoorW.PrintWords Go.Proofs.YtihjjkoddphmiaaDoorW.PrintLast Go.Proofs.YtihjjkoddphmiaaDoorW.PrintMore Go.Proofs.YtihjjkoddphmiaaDoor.PImageRound
set_option linter.unusedVariables false
set_option linter.unusedSimpArgs false

/-- A block that serves for nothing in particular is written, or a new one. -/
theorem Rm.grown {w w1 : World} {ρ : Nat → Role} {base r K : Nat} {C : Array Value} (h : Rm w ρ base r C K) {row : Option Nat} (hg : w.grownBy w1 row) (hr : ∀ k, row = some k → ρ k = .work) : Rm w1 ρ base r C K := by
  have hn : ∀ k, ρ k ≠ .work → some k ≠ row := fun k hk e => hk (hr k e.symm)
  refine ⟨blk_grown h.blk hg (hn r (by rw [h.own]; intro e; cases e)), h.low, h.own, h.fresh.size hg.size, h.sz, h.f3, h.f4, h.fixed, fun x hx => (h.fld x hx).step (flds_stays hx) rfl (fun k ⟨_, hk⟩ ho => hg.block k (blk_lt hk) (hn k (by rw [ho]; intro e; cases e))) (fun _ _ h => h) ?_⟩
  rintro f j v ⟨hv, m, hm, hj⟩
  exact ⟨hg.cell hv (hn f (by rw [hm]; intro e; cases e)), m, hm, hj⟩
theorem Lies.grown {w w1 : World} {ρ : Nat → Role} {row : Option Nat} (hg : w.grownBy w1 row) (hr : ∀ k, row = some k → ρ k = .work) : Lies w ρ w1 ρ := fun f m o hf ho =>
  ⟨blk_grown ho hg (fun e => by have := hr f e.symm; rw [hf] at this; cases this), hf⟩
theorem FxLe.grown {w w1 : World} {ρ : Nat → Role} {row : Option Nat} (hg : w.grownBy w1 row) (hr : ∀ k, row = some k → ρ k = .work) : FxLe w ρ w1 ρ := by
  rintro f j v ⟨hv, m, hm, hj⟩
  exact ⟨hg.cell hv (fun e => by have := hr f e.symm; rw [hm] at this; cases this), m, hm, hj⟩

/-- What is said of an element's cells; of a mark's. -/
abbrev Ec (α : Type) := World → (Nat → Role) → α → List Value → Prop
def StayE {α : Type} (E : Ec α) : Prop := ∀ (w w' : World) (ρ ρ' : Nat → Role) (x : α) (us : List Value), Lies w ρ w' ρ' → E w ρ x us → E w' ρ' x us
def StayQ (Q : Ec Nat) : Prop := ∀ (w w' : World) (ρ ρ' : Nat → Role) (j : Nat) (us : List Value), FxLe w ρ w' ρ' → Q w ρ j us → Q w' ρ' j us
/-- A copy under construction whose elements were lent: so many elements, so many marks. -/
structure Cq {α : Type} (E : Ec α) (Q : Ec Nat) (w : World) (ρ : Nat → Role) (base r e sz : Nat) (xs : List α) (m : Nat) (v : Value) (wr : World) (ρr : Nat → Role) (C : Array Value) (K : Nat) (vals ms : List Value) : Prop where
  low : base ≤ w.heap.size
  rm : Rm wr ρr base r C K
  ext : Ext w ρ wr ρr
  bel : Below base w wr
  own : wr.ownsRow w.heap.size e sz v (xs.length + m) (vals ++ ms)
  work : ∀ k, v.ownBlock = some k → ρr k = .work
  el : Reps (E wr ρr) sz xs vals
  mks : Reps (Q wr ρr) sz (List.range m) ms
section
variable {α : Type} {E : Ec α} {Q : Ec Nat} {w wr w1 w2 W : World} {ρ ρr ρ2 : Nat → Role} {base r e sz m K K2 : Nat} {xs : List α} {x : α} {v v1 u : Value} {C C2 : Array Value} {vals ms us us' : List Value}
theorem Cq.start (h : Rm w ρ base r C K) (E : Ec α) (Q : Ec Nat) (cs : Array Value) (hcs : cs.size = 0) : Cq E Q w ρ base r e sz [] 0 (.slice (some ⟨w.heap.size, 0, none⟩) 0 0) (w.alloc (.cells cs e)) ρ C K [] [] := by
  have hb : Below w.heap.size w (w.alloc (.cells cs e)) := below_alloc (Below.refl _ _) _
  refine ⟨h.low_size, h.below hb, Ext.below hb, hb.mono h.low_size, World.ownsRow_made w cs 0 (Nat.le_refl _) (by decide) (by simpa using hcs), fun k hk => ?_, Reps.none _ _, Reps.none _ _⟩
  have : w.heap.size = k := by simpa [Value.ownBlock] using hk
  exact h.fresh k (by omega)
/-- A call of the room's has been made. -/
theorem Cq.call (h : Cq E Q w ρ base r e sz xs m v wr ρr C K vals ms) (hP : StayE E) (hQ : StayQ Q) (hR : Rm w2 ρ2 base r C2 K2) (hE : Ext wr ρr w2 ρ2) (hB : Below base wr w2) : Cq E Q w ρ base r e sz xs m v w2 ρ2 C2 K2 vals ms :=
  ⟨h.low, hR, h.ext.trans hE, h.bel.trans hB, own_move h.own (fun k hk => hE.keep k (own_lt h.own k hk) (by rw [h.work k hk]; intro e; cases e)), fun k hk => (hE.same k (own_lt h.own k hk)).trans (h.work k hk), h.el.imp_ (fun _ _ hp => hP _ _ _ _ _ _ hE.lies hp), h.mks.imp_ (fun _ _ hp => hQ _ _ _ _ _ _ hE.fx hp)⟩
/-- Memory of the call's own was made. -/
theorem Cq.below (h : Cq E Q w ρ base r e sz xs m v wr ρr C K vals ms) (hP : StayE E) (hQ : StayQ Q) (hb : Below wr.heap.size wr w2) : Cq E Q w ρ base r e sz xs m v w2 ρr C K vals ms :=
  h.call hP hQ (h.rm.below hb) (Ext.below hb) (hb.mono h.rm.low_size)
/-- A block's use is settled. -/
theorem Cq.settle (h : Cq E Q w ρ base r e sz xs m v wr ρr C K vals ms) (hP : StayE E) (hQ : StayQ Q) {f : Nat} (hf : ρr f = .work) (hlt : f < wr.heap.size) (hne : v.ownBlock ≠ some f) (hge : w.heap.size ≤ f) (y : Role) : Cq E Q w ρ base r e sz xs m v wr (up ρr f y) C K vals ms :=
  ⟨h.low, h.rm.settle hf hlt (Nat.le_trans h.low hge) y, h.ext.up hge y, h.bel, h.own, fun k hk => (up_ne _ (fun e => hne (by rw [hk, e]))).trans (h.work k hk), h.el.imp_ (fun _ _ hp => hP _ _ _ _ _ _ (Lies.up hf y) hp), h.mks.imp_ (fun _ _ hp => hQ _ _ _ _ _ _ (FxLe.up hf y) hp)⟩
/-- The row has grown: by elements. -/
theorem Cq.push (h : Cq E Q w ρ base r e sz xs 0 v wr ρr C K vals ms) (hP : StayE E) (hg : wr.grownBy w1 v.ownBlock) (ho : w1.ownsRow w.heap.size e sz v1 (xs.length + 0 + 1) ((vals ++ ms) ++ us)) (hat : v1.ownBlock = v.ownBlock ∨ v1.ownBlock = some wr.heap.size)
    (hx : E wr ρr x us) (hl : us.length = sz) : Cq E Q w ρ base r e sz (xs ++ [x]) 0 v1 w1 ρr C K (vals ++ us) [] := by
  have hms : ms = [] := List.eq_nil_of_length_eq_zero (by have := h.mks.1; simpa using this)
  subst hms
  have hLi : Lies wr ρr w1 ρr := Lies.grown hg h.work
  refine ⟨h.low, h.rm.grown hg h.work, h.ext.grown hg (fun k hk hlt => absurd (own_base h.own k hk) (by omega)), h.bel.grown hg h.rm.low_size (fun k hk => Nat.le_trans h.low (own_base h.own k hk)), ?_, fun k hk => ?_, Reps.snoc (h.el.imp_ (fun _ _ hp => hP _ _ _ _ _ _ hLi hp)) (hP _ _ _ _ _ _ hLi hx) hl, Reps.none _ _⟩
  · simpa using ho
  · rcases hat with hat | hat
    · exact h.work k (hat.symm.trans hk)
    · rw [hat] at hk
      injection hk with hk
      exact h.rm.fresh k (by omega)
/-- By two marks. -/
theorem Cq.push2 (h : Cq E Q w ρ base r e sz xs m v wr ρr C K vals ms) (hP : StayE E) (hQ : StayQ Q) (hg : wr.grownBy w1 v.ownBlock) (ho : w1.ownsRow w.heap.size e sz v1 (xs.length + m + 2) ((vals ++ ms) ++ (us ++ us'))) (hat : v1.ownBlock = v.ownBlock ∨ v1.ownBlock = some wr.heap.size)
    (hx : Q wr ρr m us) (hy : Q wr ρr (m + 1) us') (hl : us.length = sz) (hl' : us'.length = sz) : Cq E Q w ρ base r e sz xs (m + 2) v1 w1 ρr C K vals (ms ++ us ++ us') := by
  have hLi : Lies wr ρr w1 ρr := Lies.grown hg h.work
  have hFx : FxLe wr ρr w1 ρr := FxLe.grown hg h.work
  refine ⟨h.low, h.rm.grown hg h.work, h.ext.grown hg (fun k hk hlt => absurd (own_base h.own k hk) (by omega)), h.bel.grown hg h.rm.low_size (fun k hk => Nat.le_trans h.low (own_base h.own k hk)), ?_, fun k hk => ?_, h.el.imp_ (fun _ _ hp => hP _ _ _ _ _ _ hLi hp), ?_⟩
  · rw [show xs.length + m + 2 = xs.length + (m + 2) by omega] at ho
    simpa using ho
  · rcases hat with hat | hat
    · exact h.work k (hat.symm.trans hk)
    · rw [hat] at hk
      injection hk with hk
      exact h.rm.fresh k (by omega)
  · rw [List.range_succ, List.range_succ]
    exact Reps.snoc (Reps.snoc (h.mks.imp_ (fun _ _ hp => hQ _ _ _ _ _ _ hFx hp)) (hQ _ _ _ _ _ _ hFx hx) hl) (hQ _ _ _ _ _ _ hFx hy) hl'
/-- The row's block. -/
theorem Cq.form (h : Cq E Q w ρ base r e sz xs m v wr ρr C K vals ms) (hn : 0 < xs.length + m) : ∃ f cap cs, v = .slice (some ⟨f, 0, none⟩) (xs.length + m) cap ∧ w.heap.size ≤ f ∧ xs.length + m ≤ cap ∧ wr.heap[f]? = some (.cells cs e (0, 0)) ∧ ρr f = .work ∧ ∀ (j : Nat) (u : Value), (vals ++ ms)[j]? = some u → cs[j]? = some u := by
  have hw := h.work
  rcases h.own.2 with ⟨-, h0⟩ | ⟨f, cap, cs, rfl, hb, hh, hc, -, hs, ht⟩
  · omega
  · refine ⟨f, cap, cs, rfl, hb, hc, hh, hw f rfl, fun j u hu => ?_⟩
    rw [← ht, List.getElem?_take] at hu
    split at hu
    · simpa using hu
    · cases hu
end
/-- Cell i of element j. -/
theorem reps_cell {α : Type} {R : α → List Value → Prop} {sz : Nat} {xs : List α} {cs : List Value} (h : Reps R sz xs cs) {j : Nat} {x : α} (hx : xs[j]? = some x) : ∃ us, R x us ∧ us.length = sz ∧ ∀ (i : Nat) (u : Value), us[i]? = some u → cs[j * sz + i]? = some u := by
  refine ⟨_, h.2 j x hx, ?_, fun i u hu => ?_⟩
  · have hj : j < xs.length := (List.getElem?_eq_some_iff.1 hx).1
    have h1 : j * sz + sz ≤ cs.length := by rw [h.1, ← Nat.succ_mul]; exact Nat.mul_le_mul_right _ hj
    simp
    omega
  · rw [List.getElem?_take] at hu
    split at hu
    · rwa [List.getElem?_drop] at hu
    · cases hu
end Go.Proofs.YtihjjkoddphmiaaDoor.img
namespace Go.Proofs.YtihjjkoddphmiaaDoor.img
open Go.RowKit Go.Proofs.YtihjjkoddphmiaaDoorW.PrintWords Go.Proofs.YtihjjkoddphmiaaDoorW.PrintLast Go.Proofs.YtihjjkoddphmiaaDoorW.PrintMore Go.Proofs.YtihjjkoddphmiaaDoor.PImageRound
set_option linter.unusedVariables false
set_option linter.unusedSimpArgs false

theorem mem_getD {α : Type} {l : List α} {z : α} {i : Nat} (h : i < l.length) : l.getD i z ∈ l := by
  rw [List.getD_eq_getElem?_getD, List.getElem?_eq_getElem h]
  exact List.getElem_mem h
theorem row_new' (w : World) {n : Nat} (xs : List Value) (cs : Array Value) (e : Nat) (h : cs.toList = xs) (hn : w.heap.size = n) : ∀ (j : Nat) (u : Value), xs[j]? = some u → (w.alloc (.cells cs e)).cell? ((⟨n, 0, none⟩ : Addr).add j) = some u := by
  subst hn
  exact row_new w xs cs e h
def E1 {α : Type} (P : El α) : Ec α := fun w ρ x us => ∃ u, us = [u] ∧ P w ρ u x
theorem E1.stay {α : Type} {P : El α} (hP : Stay P) : StayE (E1 P) := by
  rintro w w' ρ ρ' x us h ⟨u, e, hp⟩
  exact ⟨u, e, hP _ _ _ _ _ _ h hp⟩
def QL : Ec Nat := fun w ρ j us => ∃ p c, us = [.slice (some ⟨p, 0, none⟩) 1 c] ∧ 1 ≤ c ∧ Fx w ρ p 0 (.int .i64 (mk (-7701) j))
theorem QL.stay : StayQ QL := by
  rintro w w' ρ ρ' j us h ⟨p, c, e, hc, hp⟩
  exact ⟨p, c, e, hc, h _ _ _ hp⟩
theorem fl5 : ((5, 31, MLists) : Nat × Nat × Mk) ∈ flds := .tail _ (.tail _ (.tail _ (.head _)))
theorem fl6 : ((6, 23, MFrames) : Nat × Nat × Mk) ∈ flds := .tail _ (.tail _ (.tail _ (.tail _ (.head _))))
theorem info31 : (Tryd.prog.info? 31).map (fun i => (i.zero, i.size, i.bytes)) = some (some (.slice none 0 0), 1, 24) := by kernel_rfl

/-- Two marks are made: lists of one number. -/
theorem Cq.marks {α : Type} {E : Ec α} {w wr : World} {ρ ρr : Nat → Role} {base r e sz m K : Nat} {xs : List α} {v : Value} {C : Array Value} {vals ms : List Value} (h : Cq E QL w ρ base r e sz xs m v wr ρr C K vals ms) (hP : StayE E) (hm : m % 2 = 0) (o : Obj) :
    ∃ ρ', Cq E QL w ρ base r e sz xs m v (((wr.alloc (.cells #[.int .i64 (-7701)] 3)).alloc (.cells #[.int .i64 (-7702)] 3)).alloc o) ρ' C K vals ms ∧
      QL (((wr.alloc (.cells #[.int .i64 (-7701)] 3)).alloc (.cells #[.int .i64 (-7702)] 3)).alloc o) ρ' m [.slice (some ⟨wr.heap.size, 0, none⟩) 1 1] ∧
      QL (((wr.alloc (.cells #[.int .i64 (-7701)] 3)).alloc (.cells #[.int .i64 (-7702)] 3)).alloc o) ρ' (m + 1) [.slice (some ⟨wr.heap.size + 1, 0, none⟩) 1 1] := by
  have hb1 : Below wr.heap.size wr (wr.alloc (.cells #[.int .i64 (-7701)] 3)) := below_alloc (Below.refl _ _) _
  have hb : Below wr.heap.size wr (((wr.alloc (.cells #[.int .i64 (-7701)] 3)).alloc (.cells #[.int .i64 (-7702)] 3)).alloc o) := below_alloc (below_alloc hb1 _) _
  have hw : w.heap.size ≤ wr.heap.size := h.ext.size
  have hlt : ∀ k, v.ownBlock = some k → k < wr.heap.size := fun k hk => own_lt h.own k hk
  have f0 := h.rm.fresh wr.heap.size (Nat.le_refl _)
  have f1 := h.rm.fresh (wr.heap.size + 1) (by omega)
  have h1 := (h.below hP QL.stay hb).settle hP QL.stay f0 (by simp; omega) (fun e => by have := hlt _ e; omega) hw (.fix 0)
  have h2 := h1.settle hP QL.stay (f := wr.heap.size + 1) ((up_ne _ (by omega)).trans f1) (by simp) (fun e => by have := hlt _ e; omega) (by omega) (.fix 0)
  have c0 : (((wr.alloc (.cells #[.int .i64 (-7701)] 3)).alloc (.cells #[.int .i64 (-7702)] 3)).alloc o).heap[wr.heap.size]? = some (.cells #[.int .i64 (-7701)] 3 (0, 0)) := blk_alloc (blk_alloc (heap_alloc_new wr _) _) _
  have c1 : (((wr.alloc (.cells #[.int .i64 (-7701)] 3)).alloc (.cells #[.int .i64 (-7702)] 3)).alloc o).heap[wr.heap.size + 1]? = some (.cells #[.int .i64 (-7702)] 3 (0, 0)) := by
    have := heap_alloc_new (wr.alloc (.cells #[.int .i64 (-7701)] 3)) (.cells #[.int .i64 (-7702)] 3)
    have hs : (wr.alloc (.cells #[.int .i64 (-7701)] 3)).heap.size = wr.heap.size + 1 := by simp
    rw [hs] at this
    exact blk_alloc this _
  refine ⟨_, h2, ⟨wr.heap.size, 1, rfl, Nat.le_refl _, ?_, 0, ?_, Nat.le_refl _⟩, wr.heap.size + 1, 1, rfl, Nat.le_refl _, ?_, 0, up_at _ _ _, Nat.le_refl _⟩
  · rw [blk_cell c0]
    unfold Go.Proofs.YtihjjkoddphmiaaDoor.img.mk
    rw [if_pos hm]
    rfl
  · rw [up_ne _ (by omega), up_at]
  · rw [blk_cell c1]
    unfold Go.Proofs.YtihjjkoddphmiaaDoor.img.mk
    rw [if_neg (by omega)]
    rfl

set_option maxHeartbeats 8000000 in
set_option maxRecDepth 100000 in
theorem IntLists_any (wb : World) (r K : Nat) (C : Array Value) (ρ : Nat → Role) (A : Option Addr) (c : Nat) (ls : List (List Int)) (w : World) (hbw : Below wb.heap.size wb w) (hRm : Rm w ρ wb.heap.size r C K) (hl : ls.length ≤ 1000000) (hls : ∀ l ∈ ls, l.length ≤ 1000000) (hC : (Kd.slice 3 (Kd.int .i64)).C wb A ls.length ls) (hK : K ≤ 3900000000000) :
    Calls Tryd.prog 60 #[.pointer (some ⟨r, 0, none⟩), .slice A ls.length c] w (Lends LF ls w ρ wb.heap.size r (K + ls.length + 1)) := by
  obtain ⟨i24, hi24, h240, h241, h242⟩ := info_parts info24
  obtain ⟨i31, hi31, h310, h311, h312⟩ := info_parts info31
  have HC := Aside0.mk hC
  have HR := Aside0.mk hRm
  have HW := Aside0.mk hbw
  have HLS := Aside0.mk hls
  have HS : Aside0 (∃ ρr C' vals ms, Cq (E1 (LI .i64 3)) QL w ρ wb.heap.size r 24 1 (ls.take 0) 0 (.slice (some ⟨w.heap.size, 0, none⟩) 0 0) (w.alloc (.cells #[] 24)) ρr C' (K + 0) vals ms) := ⟨_, _, _, _, Cq.start hRm _ _ #[] rfl⟩
  clear hC hRm hbw hls
  go_enter Tryd.func60, Tryd.ntmps60
  go_wp2
  go_loopw [5, 6] (fun v i wr => ∃ k : Nat, k ≤ ls.length ∧ i = .int .i64 k ∧ Aside0 (∃ ρr C' vals ms, Cq (E1 (LI .i64 3)) QL w ρ wb.heap.size r 24 1 (ls.take k) 0 v wr ρr C' (K + k) vals ms)) (fun _ i _ => ls.length - (intOf i).toNat)
  case atStart => exact ⟨0, Nat.zero_le _, rfl, HS⟩
  case round =>
    clear HS
    obtain ⟨k, hk, rfl, HO⟩ := hrel
    obtain ⟨ρr, C', vals, ms, hq⟩ := HO.out
    have HQ := Aside0.mk hq
    clear HO hq
    by_cases hlt : k < ls.length
    · have HB := Aside0.mk (HW.out.trans HQ.out.bel)
      obtain ⟨ad, cs, rfl, hcl, hKd, hcc⟩ := Kd.C_get (Kd.C_below HC.out HB.out) [] (k : Int) (by omega) (by omega)
      rw [Int.toNat_natCast] at hKd hcc
      have HT : Aside0 (ls.take (k + 1) = ls.take k ++ [ls.getD k []]) := ⟨by rw [List.take_succ_eq_append_getElem hlt, List.getD_eq_getElem?_getD, List.getElem?_eq_getElem hlt]; rfl⟩
      have HX : Aside0 ((ls.getD k []).length ≤ 1000000) := ⟨HLS.out _ (mem_getD hlt)⟩
      generalize ls.getD k [] = x at hKd HT HX
      obtain ⟨A2, c2, e2, hl2, hC2⟩ := hKd
      have hcell : wr.cell? (ad.add k) = some (.slice A2 x.length c2) := by
        have := hcc 0 (.slice A2 x.length c2) (by rw [e2]; rfl)
        simpa [Kd.slice] using this
      have HCI := Aside0.mk (Ints_any wb.heap.size r (K + k) C' ρr A2 c2 x wr HQ.out.rm HX.out hC2 (by omega))
      clear hcl hcc e2 hl2 hC2
      go_wp2_with (fail)
      refine HCI.out.mono ?_
      rintro en w2 ⟨ρ2, C2, u, rfl, hR2, hE2, hB2, hu2⟩
      have HU := Aside0.mk hu2
      obtain ⟨f2, cf, _, _, rfl, -⟩ := hu2
      have HQ2 := Aside0.mk (HQ.out.call (E1.stay (LI.stay _ _)) QL.stay hR2 hE2 hB2)
      have HQ3 := Aside0.mk (HQ2.out.below (E1.stay (LI.stay _ _)) QL.stay (below_alloc (Below.refl _ _) (.cells #[.slice (some ⟨f2, 0, none⟩) x.length cf] 24)))
      have HLU := Aside0.mk (LI.stay _ _ _ _ _ _ _ _ (Ext.below (below_alloc (Below.refl _ _) (.cells #[.slice (some ⟨f2, 0, none⟩) x.length cf] 24))).lies HU.out)
      clear hR2 hE2 hB2 hcell
      go_wp2_with (at_builtin; refine wpList_append_own_at _ rfl _ _ 31 rfl w.heap.size 24 i24 (.slice none 0 0) 1 24 Tryd.underlying31 hi24 h240 h241 h242 rfl (by decide) _ _ _ rfl HQ3.out.own ⟨w2.heap.size, 0, none⟩ 1 1 [.slice (some ⟨f2, 0, none⟩) x.length cf] rfl rfl (row_new w2 _ _ 24 rfl) (one_cells rfl) (by have := List.length_take_le k ls; unfold maxLen; omega) (by have := List.length_take_le k ls; omega) (by have := HQ3.out.ext.size; omega) ?_; intro v1 w3 ho hg _ hat)
      have HN := Aside0.mk (HQ3.out.push (E1.stay (LI.stay _ _)) hg ho hat ⟨_, rfl, HLU.out⟩ rfl)
      rw [← HT.out] at HN
      clear ho hg hat
      go_roundw
      case rel => exact ⟨k + 1, by omega, by go_num, ⟨_, _, _, _, HN.out⟩⟩
      case measure => simp [intOf]; omega
    · obtain rfl : k = ls.length := by omega
      clear hlt hk
      rw [List.take_length] at HQ
      have HS : Aside0 (∃ ρr C' vals ms, Cq (E1 (LI .i64 3)) QL w ρ wb.heap.size r 24 1 ls (2 * 0) _ _ ρr C' (K + ls.length) vals ms) := ⟨_, _, _, _, HQ.out⟩
      clear HQ
      go_wp2
      go_loopw [5, 7] (fun v i wr => ∃ k : Nat, k ≤ 4 ∧ i = .int .i64 ((2 * k : Nat) : Int) ∧ Aside0 (∃ ρr C' vals ms, Cq (E1 (LI .i64 3)) QL w ρ wb.heap.size r 24 1 ls (2 * k) v wr ρr C' (K + ls.length) vals ms)) (fun _ i _ => 8 - (intOf i).toNat)
      case atStart => exact ⟨0, by omega, rfl, HS⟩
      case round =>
        clear HS
        obtain ⟨k, hk, rfl, HO⟩ := hrel
        obtain ⟨ρr, C', vals, ms, hq⟩ := HO.out
        have HQ := Aside0.mk hq
        clear HO hq
        by_cases hlt : k < 4
        · have t1 : ((2 * k : Nat) : Int) < 8 := by omega
          obtain ⟨ρ2, hq2, hm1, hm2⟩ := HQ.out.marks (E1.stay (LI.stay _ _)) (by omega) (.cells #[.slice (some ⟨wr.heap.size, 0, none⟩) 1 1, .slice (some ⟨wr.heap.size + 1, 0, none⟩) 1 1] 24)
          have HQ2 := Aside0.mk hq2
          have HM1 := Aside0.mk hm1
          have HM2 := Aside0.mk hm2
          clear hq2 hm1 hm2
          generalize hm : 2 * k = m at t1 HQ2 HM1 HM2
          have HM := Aside0.mk hm
          clear hm
          go_wp2_with (at_builtin; refine wpList_append_own_at _ rfl _ _ 31 rfl w.heap.size 24 i24 (.slice none 0 0) 1 24 Tryd.underlying31 hi24 h240 h241 h242 rfl (by decide) _ _ _ rfl HQ2.out.own ⟨wr.heap.size + 1 + 1, 0, none⟩ 2 2 [.slice (some ⟨wr.heap.size, 0, none⟩) 1 1, .slice (some ⟨wr.heap.size + 1, 0, none⟩) 1 1] rfl rfl (row_new' ((wr.alloc (.cells #[.int .i64 (-7701)] 3)).alloc (.cells #[.int .i64 (-7702)] 3)) _ _ 24 rfl (by simp)) (one_cells rfl) (by unfold maxLen; omega) (by omega) (by have := HQ2.out.ext.size; omega) ?_; intro v1 w3 ho hg _ hat)
          have HN := Aside0.mk (HQ2.out.push2 (us := [_]) (us' := [_]) (E1.stay (LI.stay _ _)) QL.stay hg ho hat HM1.out HM2.out rfl rfl)
          clear ho hg hat
          go_roundw
          case rel =>
            have := HM.out
            exact ⟨k + 1, by omega, by rw [← this]; go_num, ⟨_, _, _, _, by rw [show 2 * (k + 1) = m + 2 by omega]; exact HN.out⟩⟩
          case measure => simp [intOf]; omega
        · obtain rfl : k = 4 := by omega
          clear hlt hk
          obtain ⟨f, cap, cs, rfl, hfb, hcap, hfc, hfw, hcs⟩ := HQ.out.form (by omega)
          have HF := Aside0.mk (And.intro hfb (And.intro hcap (And.intro hfc (And.intro hfw hcs))))
          have HR2 := Aside0.mk (HQ.out.rm.settle hfw (blk_lt hfc) (Nat.le_trans HQ.out.low hfb) (.fix ls.length))
          obtain ⟨vh, hvals, hC1, hown1, hlen1, hrole1, hmk1⟩ := HR2.out.fld _ fl5
          obtain ⟨A1, c1, rfl⟩ := own_slice hown1
          have HV := Aside0.mk (And.intro hC1 (And.intro hown1 (And.intro hlen1 (And.intro hrole1 hmk1))))
          have hr1 : wr.cell? ⟨r, 5, none⟩ = some (.slice A1 hvals.length c1) := (blk_cell HR2.out.blk 5).trans hC1
          clear hfb hcap hfc hfw hcs hC1 hown1 hlen1 hrole1 hmk1
          have p1 : (ls.length : Int) + 8 ≤ (cap : Int) := by have := HF.out.2.1; omega
          have p2 : ls.length + 8 ≤ cap := by omega
          have p3 : ls.length ≤ ls.length + 8 := by omega
          have hg1 : (wr.alloc (.cells #[.slice (some ⟨f, 0, none⟩) (ls.length + 2 * 4) cap] 31)).heap[r]? = some (.cells C' 38 (0, 0)) := blk_alloc HR2.out.blk _
          go_wp2_with (at_builtin; refine wpList_append_own_at _ rfl _ _ 23 rfl wb.heap.size 31 i31 (.slice none 0 0) 1 24 Tryd.underlying23 hi31 h310 h311 h312 rfl (by decide) _ _ _ rfl (HV.out.2.1.alloc _) ⟨wr.heap.size, 0, none⟩ 1 1 [.slice (some ⟨f, 0, none⟩) (ls.length + 2 * 4) cap] rfl rfl (row_new wr _ _ 31 rfl) (one_cells rfl) (by have := HV.out.2.2.1; unfold maxLen; omega) (by have := HV.out.2.2.1; omega) (by have := HR2.out.lt; have := HR2.out.low; simp; omega) ?_; intro v2 w2 ho hg _ hat; obtain ⟨f2, c2, rfl, -, -⟩ := ho.form (by omega); have hb2 := blk_grown hg1 hg (own_ne HV.out.2.1 HR2.out.blk (by decide)); have hcg := (blk_cell hb2 5).trans HV.out.1; have hfz := blk_frozen hb2 5)
          refine bodyPost_ret (v := .slice (some ⟨f, 0, none⟩) ls.length (ls.length + 8)) (by simp [results, Tryd.results60, go_sem]) rfl ?_
          obtain ⟨hfb, hcap, hfc, hfw, hcs⟩ := HF.out
          obtain ⟨hC1, hown1, hlen1, hrole1, hmk1⟩ := HV.out
          have hvl : vals.length = ls.length := by have := HQ.out.el.1; omega
          refine lends_of HQ.out.ext HQ.out.bel hfb HR2.out HQ.out.low fl5 hC1 hown1 hlen1 hrole1 hmk1 ?_ hg ho hat ?_
          · refine ⟨f, ls.length + 8, cap, rfl, by omega, by omega, by omega, fun j hj => ?_⟩
            obtain ⟨us, ⟨p, c', rfl, hc', hp⟩, -, hcell⟩ := reps_cell HQ.out.mks (j := j) (x := j) (by rw [List.getElem?_range (by omega)])
            refine ⟨p, c', ⟨?_, ls.length, up_at _ _ _, by omega⟩, hc', FxLe.up hfw _ _ _ _ hp⟩
            rw [blk_cell hfc]
            refine hcs _ _ ?_
            rw [List.getElem?_append_right (by omega), show ls.length + 8 - 8 + j - vals.length = j * 1 + 0 by omega]
            exact hcell 0 _ rfl
          · intro w' ρ' hl'
            refine LF.stay _ _ _ _ _ _ hl' ⟨f, ls.length + 8, cs, ls.length, rfl, by omega, by omega, hfc, up_at _ _ _, Nat.le_refl _, fun j x hx => ?_⟩
            obtain ⟨us, ⟨u, rfl, hu⟩, -, hcell⟩ := reps_cell HQ.out.el hx
            have hj : j < ls.length := (List.getElem?_eq_some_iff.1 hx).1
            refine ⟨u, hcs j _ ?_, LI.stay _ _ _ _ _ _ _ _ (Lies.up hfw _) hu⟩
            rw [List.getElem?_append_left (by omega)]
            have := hcell 0 _ rfl
            rwa [show j * 1 + 0 = j by omega] at this
theorem info23 : (Tryd.prog.info? 23).map (fun i => (i.zero, i.size, i.bytes)) = some (some (.slice none 0 0), 1, 24) := by kernel_rfl
def QF : Ec Nat := fun w ρ j us => ∃ p c q c', us = [.slice (some ⟨p, 0, none⟩) 1 c] ∧ 1 ≤ c ∧ Fx w ρ p 0 (.slice (some ⟨q, 0, none⟩) 1 c') ∧ 1 ≤ c' ∧ Fx w ρ q 0 (.int .i64 (mk (-7701) j))
theorem QF.stay : StayQ QF := by
  rintro w w' ρ ρ' j us h ⟨p, c, q, c', e, hc, hp, hc', hq⟩
  exact ⟨p, c, q, c', e, hc, h _ _ _ hp, hc', h _ _ _ hq⟩
/-- Four blocks: two lists of a list of a number. -/
abbrev four (wr : World) : World := (((wr.alloc (.cells #[.int .i64 (-7701)] 3)).alloc (.cells #[.slice (some ⟨wr.heap.size, 0, none⟩) 1 1] 24)).alloc (.cells #[.int .i64 (-7702)] 3)).alloc (.cells #[.slice (some ⟨wr.heap.size + 1 + 1, 0, none⟩) 1 1] 24)
theorem four_at (wr : World) : (four wr).heap.size = wr.heap.size + 4 ∧ (four wr).heap[wr.heap.size]? = some (.cells #[.int .i64 (-7701)] 3 (0, 0)) ∧ (four wr).heap[wr.heap.size + 1]? = some (.cells #[.slice (some ⟨wr.heap.size, 0, none⟩) 1 1] 24 (0, 0)) ∧
    (four wr).heap[wr.heap.size + 2]? = some (.cells #[.int .i64 (-7702)] 3 (0, 0)) ∧ (four wr).heap[wr.heap.size + 3]? = some (.cells #[.slice (some ⟨wr.heap.size + 1 + 1, 0, none⟩) 1 1] 24 (0, 0)) ∧ Below wr.heap.size wr (four wr) := by
  have at_ : ∀ (W : World) (o : Obj) (n : Nat), W.heap.size = n → (W.alloc o).heap[n]? = some o := fun W o n h => by subst h; exact heap_alloc_new W o
  refine ⟨by simp, ?_, ?_, ?_, ?_, ?_⟩
  · exact blk_alloc (blk_alloc (blk_alloc (heap_alloc_new wr _) _) _) _
  · exact blk_alloc (blk_alloc (at_ _ _ _ (by simp)) _) _
  · exact blk_alloc (at_ _ _ _ (by simp)) _
  · exact at_ _ _ _ (by simp)
  · exact below_alloc (below_alloc (below_alloc (below_alloc (Below.refl _ _) _) _) _) _
/-- Two marks are made: lists of a list of one number. -/
theorem Cq.marksF {α : Type} {E : Ec α} {w wr : World} {ρ ρr : Nat → Role} {base r e sz m K : Nat} {xs : List α} {v : Value} {C : Array Value} {vals ms : List Value} (h : Cq E QF w ρ base r e sz xs m v wr ρr C K vals ms) (hP : StayE E) (hm : m % 2 = 0) (o : Obj) :
    ∃ ρ', Cq E QF w ρ base r e sz xs m v ((four wr).alloc o) ρ' C K vals ms ∧ QF ((four wr).alloc o) ρ' m [.slice (some ⟨wr.heap.size + 1, 0, none⟩) 1 1] ∧ QF ((four wr).alloc o) ρ' (m + 1) [.slice (some ⟨wr.heap.size + 1 + 1 + 1, 0, none⟩) 1 1] := by
  obtain ⟨hsz, b0, b1, b2, b3, hb0⟩ := four_at wr
  have hb : Below wr.heap.size wr ((four wr).alloc o) := below_alloc hb0 _
  have hsz' : ((four wr).alloc o).heap.size = wr.heap.size + 5 := by simp [hsz]
  have hw : w.heap.size ≤ wr.heap.size := h.ext.size
  have hlt : ∀ k, v.ownBlock = some k → k < wr.heap.size := fun k hk => own_lt h.own k hk
  have hf : ∀ i, ρr (wr.heap.size + i) = .work := fun i => h.rm.fresh _ (by omega)
  have h0 := h.below hP QF.stay hb
  have h1 := h0.settle hP QF.stay (hf 0) (by omega) (fun e => by have := hlt _ e; omega) (by omega) (.fix 0)
  have h2 := h1.settle hP QF.stay (f := wr.heap.size + 1) ((up_ne _ (by omega)).trans (hf 1)) (by omega) (fun e => by have := hlt _ e; omega) (by omega) (.fix 0)
  have h3 := h2.settle hP QF.stay (f := wr.heap.size + 2) ((up_ne _ (by omega)).trans ((up_ne _ (by omega)).trans (hf 2))) (by omega) (fun e => by have := hlt _ e; omega) (by omega) (.fix 0)
  have h4 := h3.settle hP QF.stay (f := wr.heap.size + 3) ((up_ne _ (by omega)).trans ((up_ne _ (by omega)).trans ((up_ne _ (by omega)).trans (hf 3)))) (by omega) (fun e => by have := hlt _ e; omega) (by omega) (.fix 0)
  refine ⟨_, h4, ⟨wr.heap.size + 1, 1, wr.heap.size, 1, rfl, Nat.le_refl _, ⟨?_, 0, ?_, Nat.le_refl _⟩, Nat.le_refl _, ⟨?_, 0, ?_, Nat.le_refl _⟩⟩, ⟨wr.heap.size + 1 + 1 + 1, 1, wr.heap.size + 1 + 1, 1, rfl, Nat.le_refl _, ⟨?_, 0, ?_, Nat.le_refl _⟩, Nat.le_refl _, ⟨?_, 0, ?_, Nat.le_refl _⟩⟩⟩
  · rw [blk_cell (blk_alloc b1 _)]; rfl
  · rw [up_ne _ (by omega), up_ne _ (by omega), up_at]
  · rw [blk_cell (blk_alloc b0 _)]
    unfold Go.Proofs.YtihjjkoddphmiaaDoor.img.mk
    rw [if_pos hm]
    rfl
  · rw [up_ne _ (by omega), up_ne _ (by omega), up_ne _ (by omega), ← Nat.add_zero wr.heap.size, up_at]
  · rw [blk_cell (blk_alloc b3 _)]; rfl
  · exact up_at _ _ _
  · rw [blk_cell (blk_alloc b2 _)]
    unfold Go.Proofs.YtihjjkoddphmiaaDoor.img.mk
    rw [if_neg (by omega)]
    rfl
  · rw [up_ne _ (by omega)]; exact up_at _ _ _

set_option maxHeartbeats 8000000 in
set_option maxRecDepth 100000 in
theorem Frames_any (wb : World) (r K : Nat) (C : Array Value) (ρ : Nat → Role) (A : Option Addr) (c : Nat) (ls : List (List (List Int))) (w : World) (hbw : Below wb.heap.size wb w) (hRm : Rm w ρ wb.heap.size r C K) (hl : ls.length ≤ 1000000) (hls : ∀ l ∈ ls, l.length ≤ 1000000 ∧ ∀ f ∈ l, f.length ≤ 1000000) (hC : (Kd.slice 24 (Kd.slice 3 (Kd.int .i64))).C wb A ls.length ls) (hK : K ≤ 2000000000000) :
    Calls Tryd.prog 25 #[.pointer (some ⟨r, 0, none⟩), .slice A ls.length c] w (Lends LS ls w ρ wb.heap.size r (K + ls.length * 1000001 + 1)) := by
  obtain ⟨i24, hi24, h240, h241, h242⟩ := info_parts info31
  obtain ⟨i31, hi31, h310, h311, h312⟩ := info_parts info23
  have HC := Aside0.mk hC
  have HR := Aside0.mk hRm
  have HW := Aside0.mk hbw
  have HLS := Aside0.mk hls
  have HS : Aside0 (∃ ρr C' vals ms, Cq (E1 (LF)) QF w ρ wb.heap.size r 31 1 (ls.take 0) 0 (.slice (some ⟨w.heap.size, 0, none⟩) 0 0) (w.alloc (.cells #[] 31)) ρr C' (K + 0 * 1000001) vals ms) := ⟨_, _, _, _, Cq.start hRm _ _ #[] rfl⟩
  clear hC hRm hbw hls
  go_enter Tryd.func25, Tryd.ntmps25
  go_wp2
  go_loopw [5, 6] (fun v i wr => ∃ k : Nat, k ≤ ls.length ∧ i = .int .i64 k ∧ Aside0 (∃ ρr C' vals ms, Cq (E1 (LF)) QF w ρ wb.heap.size r 31 1 (ls.take k) 0 v wr ρr C' (K + k * 1000001) vals ms)) (fun _ i _ => ls.length - (intOf i).toNat)
  case atStart => exact ⟨0, Nat.zero_le _, rfl, HS⟩
  case round =>
    clear HS
    obtain ⟨k, hk, rfl, HO⟩ := hrel
    obtain ⟨ρr, C', vals, ms, hq⟩ := HO.out
    have HQ := Aside0.mk hq
    clear HO hq
    by_cases hlt : k < ls.length
    · have HB := Aside0.mk (HW.out.trans HQ.out.bel)
      obtain ⟨ad, cs, rfl, hcl, hKd, hcc⟩ := Kd.C_get HC.out [] (k : Int) (by omega) (by omega)
      rw [Int.toNat_natCast] at hKd hcc
      have HT : Aside0 (ls.take (k + 1) = ls.take k ++ [ls.getD k []]) := ⟨by rw [List.take_succ_eq_append_getElem hlt, List.getD_eq_getElem?_getD, List.getElem?_eq_getElem hlt]; rfl⟩
      have HX : Aside0 ((ls.getD k []).length ≤ 1000000 ∧ ∀ f ∈ ls.getD k [], f.length ≤ 1000000) := ⟨HLS.out _ (mem_getD hlt)⟩
      generalize ls.getD k [] = x at hKd HT HX
      obtain ⟨A2, c2, e2, hl2, hC2⟩ := hKd
      have hcell : wr.cell? (ad.add k) = some (.slice A2 x.length c2) := by
        have := hcc 0 (.slice A2 x.length c2) (by rw [e2]; rfl)
        exact pw_cell_below HB.out (by simpa [Kd.slice] using this)
      have HCI := Aside0.mk (IntLists_any wb r (K + k * 1000001) C' ρr A2 c2 x wr HB.out HQ.out.rm HX.out.1 HX.out.2 hC2 (by omega))
      clear hcl hcc e2 hl2 hC2
      go_wp2_with (fail)
      refine HCI.out.mono ?_
      rintro en w2 ⟨ρ2, C2, u, rfl, hR2, hE2, hB2, hu2⟩
      have HU := Aside0.mk hu2
      obtain ⟨f2, cf, _, _, rfl, -⟩ := hu2
      have HQ2 := Aside0.mk (HQ.out.call (E1.stay LF.stay) QF.stay (hR2.more (show _ ≤ K + (k + 1) * 1000001 by have := HX.out.1; omega)) hE2 hB2)
      have HQ3 := Aside0.mk (HQ2.out.below (E1.stay LF.stay) QF.stay (below_alloc (Below.refl _ _) (.cells #[.slice (some ⟨f2, 0, none⟩) x.length cf] 31)))
      have HLU := Aside0.mk (LF.stay _ _ _ _ _ _ (Ext.below (below_alloc (Below.refl _ _) (.cells #[.slice (some ⟨f2, 0, none⟩) x.length cf] 31))).lies HU.out)
      clear hR2 hE2 hB2 hcell
      go_wp2_with (at_builtin; refine wpList_append_own_at _ rfl _ _ 23 rfl w.heap.size 31 i24 (.slice none 0 0) 1 24 Tryd.underlying23 hi24 h240 h241 h242 rfl (by decide) _ _ _ rfl HQ3.out.own ⟨w2.heap.size, 0, none⟩ 1 1 [.slice (some ⟨f2, 0, none⟩) x.length cf] rfl rfl (row_new w2 _ _ 31 rfl) (one_cells rfl) (by have := List.length_take_le k ls; unfold maxLen; omega) (by have := List.length_take_le k ls; omega) (by have := HQ3.out.ext.size; omega) ?_; intro v1 w3 ho hg _ hat)
      have HN := Aside0.mk (HQ3.out.push (E1.stay LF.stay) hg ho hat ⟨_, rfl, HLU.out⟩ rfl)
      rw [← HT.out] at HN
      clear ho hg hat
      go_roundw
      case rel => exact ⟨k + 1, by omega, by go_num, ⟨_, _, _, _, HN.out⟩⟩
      case measure => simp [intOf]; omega
    · obtain rfl : k = ls.length := by omega
      clear hlt hk
      rw [List.take_length] at HQ
      have HS : Aside0 (∃ ρr C' vals ms, Cq (E1 (LF)) QF w ρ wb.heap.size r 31 1 ls (2 * 0) _ _ ρr C' (K + ls.length * 1000001) vals ms) := ⟨_, _, _, _, HQ.out⟩
      clear HQ
      go_wp2
      go_loopw [5, 7] (fun v i wr => ∃ k : Nat, k ≤ 4 ∧ i = .int .i64 ((2 * k : Nat) : Int) ∧ Aside0 (∃ ρr C' vals ms, Cq (E1 (LF)) QF w ρ wb.heap.size r 31 1 ls (2 * k) v wr ρr C' (K + ls.length * 1000001) vals ms)) (fun _ i _ => 8 - (intOf i).toNat)
      case atStart => exact ⟨0, by omega, rfl, HS⟩
      case round =>
        clear HS
        obtain ⟨k, hk, rfl, HO⟩ := hrel
        obtain ⟨ρr, C', vals, ms, hq⟩ := HO.out
        have HQ := Aside0.mk hq
        clear HO hq
        by_cases hlt : k < 4
        · have t1 : ((2 * k : Nat) : Int) < 8 := by omega
          obtain ⟨ρ2, hq2, hm1, hm2⟩ := HQ.out.marksF (E1.stay LF.stay) (by omega) (.cells #[.slice (some ⟨wr.heap.size + 1, 0, none⟩) 1 1, .slice (some ⟨wr.heap.size + 1 + 1 + 1, 0, none⟩) 1 1] 31)
          have HQ2 := Aside0.mk hq2
          have HM1 := Aside0.mk hm1
          have HM2 := Aside0.mk hm2
          clear hq2 hm1 hm2
          generalize hm : 2 * k = m at t1 HQ2 HM1 HM2
          have HM := Aside0.mk hm
          clear hm
          go_wp2_with (at_builtin; refine wpList_append_own_at _ rfl _ _ 23 rfl w.heap.size 31 i24 (.slice none 0 0) 1 24 Tryd.underlying23 hi24 h240 h241 h242 rfl (by decide) _ _ _ rfl HQ2.out.own ⟨wr.heap.size + 1 + 1 + 1 + 1, 0, none⟩ 2 2 [.slice (some ⟨wr.heap.size + 1, 0, none⟩) 1 1, .slice (some ⟨wr.heap.size + 1 + 1 + 1, 0, none⟩) 1 1] rfl rfl (row_new' (four wr) _ _ 31 rfl (by simp)) (one_cells rfl) (by unfold maxLen; omega) (by omega) (by have := HQ2.out.ext.size; omega) ?_; intro v1 w3 ho hg _ hat)
          have HN := Aside0.mk (HQ2.out.push2 (us := [_]) (us' := [_]) (E1.stay LF.stay) QF.stay hg ho hat HM1.out HM2.out rfl rfl)
          clear ho hg hat
          go_roundw
          case rel =>
            have := HM.out
            exact ⟨k + 1, by omega, by rw [← this]; go_num, ⟨_, _, _, _, by rw [show 2 * (k + 1) = m + 2 by omega]; exact HN.out⟩⟩
          case measure => simp [intOf]; omega
        · obtain rfl : k = 4 := by omega
          clear hlt hk
          obtain ⟨f, cap, cs, rfl, hfb, hcap, hfc, hfw, hcs⟩ := HQ.out.form (by omega)
          have HF := Aside0.mk (And.intro hfb (And.intro hcap (And.intro hfc (And.intro hfw hcs))))
          have HR2 := Aside0.mk (HQ.out.rm.settle hfw (blk_lt hfc) (Nat.le_trans HQ.out.low hfb) (.fix ls.length))
          obtain ⟨vh, hvals, hC1, hown1, hlen1, hrole1, hmk1⟩ := HR2.out.fld _ fl6
          obtain ⟨A1, c1, rfl⟩ := own_slice hown1
          have HV := Aside0.mk (And.intro hC1 (And.intro hown1 (And.intro hlen1 (And.intro hrole1 hmk1))))
          have hr1 : wr.cell? ⟨r, 6, none⟩ = some (.slice A1 hvals.length c1) := (blk_cell HR2.out.blk 6).trans hC1
          clear hfb hcap hfc hfw hcs hC1 hown1 hlen1 hrole1 hmk1
          have p1 : (ls.length : Int) + 8 ≤ (cap : Int) := by have := HF.out.2.1; omega
          have p2 : ls.length + 8 ≤ cap := by omega
          have p3 : ls.length ≤ ls.length + 8 := by omega
          have hg1 : (wr.alloc (.cells #[.slice (some ⟨f, 0, none⟩) (ls.length + 2 * 4) cap] 23)).heap[r]? = some (.cells C' 38 (0, 0)) := blk_alloc HR2.out.blk _
          go_wp2_with (at_builtin; refine wpList_append_own_at _ rfl _ _ 35 rfl wb.heap.size 23 i31 (.slice none 0 0) 1 24 Tryd.underlying35 hi31 h310 h311 h312 rfl (by decide) _ _ _ rfl (HV.out.2.1.alloc _) ⟨wr.heap.size, 0, none⟩ 1 1 [.slice (some ⟨f, 0, none⟩) (ls.length + 2 * 4) cap] rfl rfl (row_new wr _ _ 23 rfl) (one_cells rfl) (by have := HV.out.2.2.1; unfold maxLen; omega) (by have := HV.out.2.2.1; omega) (by have := HR2.out.lt; have := HR2.out.low; simp; omega) ?_; intro v2 w2 ho hg _ hat; obtain ⟨f2, c2, rfl, -, -⟩ := ho.form (by omega); have hb2 := blk_grown hg1 hg (own_ne HV.out.2.1 HR2.out.blk (by decide)); have hcg := (blk_cell hb2 6).trans HV.out.1; have hfz := blk_frozen hb2 6)
          refine bodyPost_ret (v := .slice (some ⟨f, 0, none⟩) ls.length (ls.length + 8)) (by simp [results, Tryd.results25, go_sem]) rfl ?_
          obtain ⟨hfb, hcap, hfc, hfw, hcs⟩ := HF.out
          obtain ⟨hC1, hown1, hlen1, hrole1, hmk1⟩ := HV.out
          have hvl : vals.length = ls.length := by have := HQ.out.el.1; omega
          refine lends_of HQ.out.ext HQ.out.bel hfb HR2.out HQ.out.low fl6 hC1 hown1 hlen1 hrole1 hmk1 ?_ hg ho hat ?_
          · refine ⟨f, ls.length + 8, cap, rfl, by omega, by omega, by omega, fun j hj => ?_⟩
            obtain ⟨us, ⟨p, c', q, c'', rfl, hc', hp, hc'', hq⟩, -, hcell⟩ := reps_cell HQ.out.mks (j := j) (x := j) (by rw [List.getElem?_range (by omega)])
            refine ⟨p, c', q, c'', ⟨?_, ls.length, up_at _ _ _, by omega⟩, hc', FxLe.up hfw _ _ _ _ hp, hc'', FxLe.up hfw _ _ _ _ hq⟩
            rw [blk_cell hfc]
            refine hcs _ _ ?_
            rw [List.getElem?_append_right (by omega), show ls.length + 8 - 8 + j - vals.length = j * 1 + 0 by omega]
            exact hcell 0 _ rfl
          · intro w' ρ' hl'
            refine LS.stay _ _ _ _ _ _ hl' ⟨f, ls.length + 8, cs, ls.length, rfl, by omega, by omega, hfc, up_at _ _ _, Nat.le_refl _, fun j x hx => ?_⟩
            obtain ⟨us, ⟨u, rfl, hu⟩, -, hcell⟩ := reps_cell HQ.out.el hx
            have hj : j < ls.length := (List.getElem?_eq_some_iff.1 hx).1
            refine ⟨u, hcs j _ ?_, LF.stay _ _ _ _ _ _ (Lies.up hfw _) hu⟩
            rw [List.getElem?_append_left (by omega)]
            have := hcell 0 _ rfl
            rwa [show j * 1 + 0 = j by omega] at this
end Go.Proofs.YtihjjkoddphmiaaDoor.img
