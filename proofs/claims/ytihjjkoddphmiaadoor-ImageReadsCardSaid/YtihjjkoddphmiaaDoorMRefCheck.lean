/-
  The walk of middenref16.Check.
-/
import Derived.Test.YtihjjkoddphmiaaDoorMRefOk
namespace Go.Proofs.YtihjjkoddphmiaaDoor.img
open Go.RowKit Go.Proofs.YtihjjkoddphmiaaDoorW.PrintWords Go.Proofs.YtihjjkoddphmiaaDoorW.PrintLast Go.Proofs.YtihjjkoddphmiaaDoorW.PrintMore Go.Proofs.YtihjjkoddphmiaaDoor.PImageRound
set_option linter.unusedVariables false
set_option linter.unusedSimpArgs false

theorem hold_of {g : Gr} (h1 : slotsOk g = true) (h2 : (numsB g.objs.length 1 g.queue && regB g) = true) : holdB g = true := by
 unfold slotsOk at h1
 unfold holdB tailB
 by_cases a1 : g.slots.length < 1
 ·rw [if_pos a1] at h1; exact absurd h1 (by decide)
 by_cases a2 : g.slots.length > 8
 ·rw [if_neg a1, if_pos a2] at h1; exact absurd h1 (by decide)
 by_cases a3 : g.handles.length > 1024
 ·rw [if_neg a1, if_neg a2, if_pos a3] at h1; exact absurd h1 (by decide)
 rw [if_neg a1, if_neg a2, if_neg a3, Bool.and_eq_true] at h1
 rw [Bool.and_eq_true] at h2
 rw [if_neg a1, if_neg a2, if_neg a3, h1.1, h1.2, h2.1, h2.2]
 rfl
/-- The argument's block. -/
structure Bx (w w' : World) (v0 v1 v2 v3 v4 v5 : Value) : Prop where
 bel : Below w.heap.size w w'
 blk : w'.heap[w.heap.size]? = some (.cells #[v0, v1, v2, v3, v4, v5] 27 (0, 0))
theorem Bx.start (w : World) (v0 v1 v2 v3 v4 v5 : Value) : Bx w (w.alloc (.cells #[v0, v1, v2, v3, v4, v5] 27)) v0 v1 v2 v3 v4 v5 := ⟨below_alloc (Below.refl _ _) _, heap_alloc_new w _⟩
theorem Bx.below {w w' w2 : World} {v0 v1 v2 v3 v4 v5 : Value} (h : Bx w w' v0 v1 v2 v3 v4 v5) (hb : Below w'.heap.size w' w2) : Bx w w2 v0 v1 v2 v3 v4 v5 := ⟨below_step h.bel hb, blk_below h.blk hb⟩
theorem Bx.cells {w w' : World} {v0 v1 v2 v3 v4 v5 : Value} (h : Bx w w' v0 v1 v2 v3 v4 v5) : w'.cell? ⟨w.heap.size, 0, none⟩ = some v0 ∧ w'.cell? ⟨w.heap.size, 1, none⟩ = some v1 ∧ w'.cell? ⟨w.heap.size, 2, none⟩ = some v2 ∧ w'.cell? ⟨w.heap.size, 3, none⟩ = some v3 ∧ w'.cell? ⟨w.heap.size, 4, none⟩ = some v4 ∧ w'.cell? ⟨w.heap.size, 5, none⟩ = some v5 :=
 ⟨(blk_cell h.blk 0).trans rfl, (blk_cell h.blk 1).trans rfl, (blk_cell h.blk 2).trans rfl, (blk_cell h.blk 3).trans rfl, (blk_cell h.blk 4).trans rfl, (blk_cell h.blk 5).trans rfl⟩

theorem robjects_any (L : Lay) (g : Gr) (ht : Tame g) (w : World) (hR : Rd w L g) : Calls Tryd.prog 30 #[.agg (gcells L g).toArray] w fun e w' => e = .returned (.bool (objsB g)) ∧ Below w.heap.size w w' := by
 obtain ⟨k, hk⟩ := (robjs_ev ht.mild ht.objs).rounds
 exact middenref16_objects.calls k _ _ _ _ _ _ _ _ _ _ _ _ _ _ _ _ _ w hR.r0 hR.h0 hR.r1 hR.h1 hR.r2 hR.h2 hR.r3 hR.h3 hR.r4 hR.h4 hk
theorem rlists_any (L : Lay) (g : Gr) (ht : Tame g) (w : World) (hR : Rd w L g) : Calls Tryd.prog 32 #[.agg (gcells L g).toArray] w fun e w' => e = .returned (.bool (numsB g.objs.length 1 g.queue && regB g)) ∧ Below w.heap.size w w' := by
 obtain ⟨k, hk⟩ := (rlists_ev g ht.mild).rounds
 exact middenref16_lists.calls k _ _ _ _ _ _ _ _ _ _ _ _ _ _ _ _ _ w hR.r0 hR.h0 hR.r1 hR.h1 hR.r2 hR.h2 hR.r3 hR.h3 hR.r4 hR.h4 hk
theorem rknown_any (L : Lay) (g : Gr) (ht : Tame g) (hp : Pts g) (hr : (rootL g).length ≤ 1000000000) (w : World) (hR : Rd w L g) : Calls Tryd.prog 33 #[.agg (gcells L g).toArray] w fun e w' => e = .returned (.bool (knownB g)) ∧ Below w.heap.size w w' := by
 obtain ⟨k, hk⟩ := (rknown_ev ht.mild hp hr).rounds
 exact middenref16_known.calls k _ _ _ _ _ _ _ _ _ _ _ _ _ _ _ _ _ w hR.r0 hR.h0 hR.r1 hR.h1 hR.r2 hR.h2 hR.r3 hR.h3 hR.r4 hR.h4 hk

set_option maxHeartbeats 8000000 in
set_option maxRecDepth 100000 in
/-- The reference's answer is whether the graph may be. -/
theorem RefCheck_any (L : Lay) (g : Gr) (ht : Tame g) (hr : (rootL g).length ≤ 1000000000) (w : World) (hR : Rd w L g) :
  Calls Tryd.prog 13 #[.agg (gcells L g).toArray] w fun e w' => e = .returned (.int .i64 (if okB g = true then 0 else 164)) ∧ Below w.heap.size w w' := by
 have HP : Aside0 (objsB g = true → holdB g = true → Pts g) := ⟨pts_of ht.objs⟩
 obtain ⟨b1, hb1⟩ : ∃ b, objsB g = b := ⟨_, rfl⟩
 obtain ⟨b2, hb2⟩ : ∃ b, slotsOk g = b := ⟨_, rfl⟩
 obtain ⟨b3, hb3⟩ : ∃ b, (numsB g.objs.length 1 g.queue && regB g) = b := ⟨_, rfl⟩
 obtain ⟨b4, hb4⟩ : ∃ b, knownB g = b := ⟨_, rfl⟩
 have hok : okB g = (b1 && (b2 && (b3 && b4))) := by rw [← hb1, ← hb2, ← hb3, ← hb4]; exact (ok_same g).symm
 rw [hok]
 have H1 := Aside0.mk (fun wx (hb : Below w.heap.size w wx) => robjects_any L g ht wx (hR.below hb))
 have H2 := Aside0.mk (fun wx (hb : Below w.heap.size w wx) => slots_any L g ht.mild wx (hR.below hb))
 have H3 := Aside0.mk (fun wx (hb : Below w.heap.size w wx) => rlists_any L g ht wx (hR.below hb))
 have H4 := Aside0.mk (fun (q1 : b1 = true) (q2 : b2 = true) (q3 : b3 = true) wx (hb : Below w.heap.size w wx) => rknown_any L g ht (HP.out (hb1.trans q1) (hold_of (hb2.trans q2) (hb3.trans q3))) hr wx (hR.below hb))
 rw [hb1] at H1
 rw [hb2] at H2
 rw [hb3] at H3
 rw [hb4] at H4
 obtain ⟨C, hC⟩ : ∃ C : List Value, gcells L g = C := ⟨_, rfl⟩
 rw [hC] at H1 H2 H3 H4 ⊢
 obtain ⟨v0, v1, v2, v3, v4, v5, rfl⟩ : ∃ v0 v1 v2 v3 v4 v5, C = [v0, v1, v2, v3, v4, v5] := ⟨_, _, _, _, _, _, hC.symm⟩
 have HB0 := Aside0.mk (Bx.start w v0 v1 v2 v3 v4 v5)
 clear ht hr hR hb1 hb2 hb3 hb4 hok HP hC
 go_enter Tryd.func13, Tryd.ntmps13
 go_wp2_with (fail)
 refine (H1.out _ HB0.out.bel).mono ?_
 rintro en w1 ⟨rfl, hb1⟩
 have HB1 := Aside0.mk (HB0.out.below hb1)
 obtain ⟨k0, k1, k2, k3, k4, k5⟩ := HB1.out.cells
 clear hb1 HB0
 cases b1
 ·go_wp2_with (fail)
  go_ret
  exact ⟨rfl, HB1.out.bel⟩
 go_wp2_with (fail)
 refine (H2.out _ HB1.out.bel).mono ?_
 rintro en w2 ⟨rfl, hb2⟩
 have HB2 := Aside0.mk (HB1.out.below hb2)
 clear k0 k1 k2 k3 k4 k5 hb2 HB1
 obtain ⟨k0, k1, k2, k3, k4, k5⟩ := HB2.out.cells
 cases b2
 ·go_wp2_with (fail)
  go_ret
  exact ⟨rfl, HB2.out.bel⟩
 go_wp2_with (fail)
 refine (H3.out _ HB2.out.bel).mono ?_
 rintro en w3 ⟨rfl, hb3⟩
 have HB3 := Aside0.mk (HB2.out.below hb3)
 clear k0 k1 k2 k3 k4 k5 hb3 HB2
 obtain ⟨k0, k1, k2, k3, k4, k5⟩ := HB3.out.cells
 cases b3
 ·go_wp2_with (fail)
  go_ret
  exact ⟨rfl, HB3.out.bel⟩
 go_wp2_with (fail)
 refine (H4.out (by trivial) (by trivial) (by trivial) _ HB3.out.bel).mono ?_
 rintro en w4 ⟨rfl, hb4⟩
 have HB4 := Aside0.mk (HB3.out.below hb4)
 clear k0 k1 k2 k3 k4 k5 hb4 HB3
 cases b4
 ·go_wp2_with (fail)
  go_ret
  exact ⟨rfl, HB4.out.bel⟩
 ·go_wp2_with (fail)
  go_ret
  exact ⟨rfl, HB4.out.bel⟩
end Go.Proofs.YtihjjkoddphmiaaDoor.img
