/-
  The walk of middenlaw16.ImageRound, fn 6.
-/
import Derived.Test.YtihjjkoddphmiaaDoorCImgL7
import Derived.Test.YtihjjkoddphmiaaDoorCImgSg
namespace Go.Proofs.YtihjjkoddphmiaaDoor.img
open Go.RowKit Go.Proofs.YtihjjkoddphmiaaDoorW.PrintWords Go.Proofs.YtihjjkoddphmiaaDoorW.PrintLast Go.Proofs.YtihjjkoddphmiaaDoorW.PrintMore Go.Proofs.YtihjjkoddphmiaaDoor.PImageRound
set_option linter.unusedVariables false
set_option linter.unusedSimpArgs false

theorem small_any {L : Lay} {g : Gr} (hrm : Roomy g) : ∃ r, (r = true → total g ≤ 16384) ∧ ∀ w, Rd w L g → Calls Tryd.prog 9 #[.agg (gcells L g).toArray] w fun e w' => e = .returned (.bool r) ∧ Below w.heap.size w w' := by
  obtain ⟨r, hev, hr⟩ := size_ev g hrm
  obtain ⟨k, hk⟩ := hev.rounds
  refine ⟨r, hr, fun w h => ?_⟩
  exact middenlaw16_small.calls k L.A0 L.c0 g.objs L.A1 L.c1 g.slots L.A2 L.c2 g.handles L.A3 L.c3 g.registry L.A4 L.c4 g.queue g.next r w h.r0 h.h0 h.r1 h.h1 h.r2 h.h2 h.r3 h.h3 h.r4 h.h4 hk

/-- The law's own variable that holds the graph. -/
structure Box (w w' : World) (v0 v1 v2 v3 v4 v5 : Value) : Prop where
  bel : Below w.heap.size w w'
  blk : w'.heap[w.heap.size]? = some (.cells #[v0, v1, v2, v3, v4, v5] 27 (0, 0))
theorem Box.below {w w' w'' : World} {v0 v1 v2 v3 v4 v5 : Value} (h : Box w w' v0 v1 v2 v3 v4 v5) (hb : Below w'.heap.size w' w'') : Box w w'' v0 v1 v2 v3 v4 v5 := ⟨below_step h.bel hb, blk_below h.blk hb⟩
theorem Box.cells {w w' : World} {v0 v1 v2 v3 v4 v5 : Value} (h : Box w w' v0 v1 v2 v3 v4 v5) : w'.cell? ⟨w.heap.size, 0, none⟩ = some v0 ∧ w'.cell? ⟨w.heap.size, 1, none⟩ = some v1 ∧ w'.cell? ⟨w.heap.size, 2, none⟩ = some v2 ∧ w'.cell? ⟨w.heap.size, 3, none⟩ = some v3 ∧ w'.cell? ⟨w.heap.size, 4, none⟩ = some v4 ∧ w'.cell? ⟨w.heap.size, 5, none⟩ = some v5 :=
  ⟨(blk_cell h.blk 0).trans rfl, (blk_cell h.blk 1).trans rfl, (blk_cell h.blk 2).trans rfl, (blk_cell h.blk 3).trans rfl, (blk_cell h.blk 4).trans rfl, (blk_cell h.blk 5).trans rfl⟩

set_option maxHeartbeats 8000000 in
set_option maxRecDepth 100000 in
theorem round_any (L : Lay) (g : Gr) (w : World) (hR : Rd w L g) (hrm : Roomy g) (hwd : Words g) (hfair : ∀ W', Below w.heap.size w W' → Fair W' L g) (hT : Tabs w) :
    Calls Tryd.prog 6 #[.agg (gcells L g).toArray] w fun e w' => e = .returned (.bool true) ∧ Below w.heap.size w w' := by
  obtain ⟨r, hsm, hsmall⟩ := small_any (L := L) hrm
  have HSM := Aside0.mk (fun (w' : World) (hb : Below w.heap.size w w') => hsmall w' (hR.below hb))
  have HKN := Aside0.mk (fun (w' : World) (hb : Below w.heap.size w w') => opening_any w' (hT.below hb))
  have HCK := Aside0.mk (fun (hn : Near g) (w' : World) (hb : Below w.heap.size w w') => Check_any L g hn.tame w' (hR.below hb) (hT.below hb))
  have HWB := Aside0.mk (fun (hn : Near g) (hok : okB g = false) (w' : World) (hb : Below w.heap.size w w') => Write_bad L g hn w' (hR.below hb) (hT.below hb) hok)
  have HWO := Aside0.mk (fun (hn : Near g) (hok : okB g = true) (w' : World) (hb : Below w.heap.size w w') => Write_ok L g hn hwd w' (hR.below hb) (hT.below hb) hok (hfair w' hb).h0 (hfair w' hb).h1 (hfair w' hb).h2 (hfair w' hb).h4)
  have HSG := Aside0.mk (fun (hn : Near g) (M : Lay) (w' : World) (hb : Below w.heap.size w w') (hM : Rd w' M g) => sameG_any (L := L) (M := M) hn (hR.below hb) hM)
  have HSR := Aside0.mk hsm
  have HT := Aside0.mk hT
  have HWD := Aside0.mk hwd
  obtain ⟨C, hC⟩ : ∃ C : List Value, gcells L g = C := ⟨_, rfl⟩
  rw [hC] at HSM HCK HWB HWO HSG ⊢
  obtain ⟨v0, v1, v2, v3, v4, v5, rfl⟩ : ∃ v0 v1 v2 v3 v4 v5, C = [v0, v1, v2, v3, v4, v5] := ⟨_, _, _, _, _, _, hC.symm⟩
  clear hsm hsmall hR hrm hwd hfair hT hC
  have HB0 : Aside0 (Box w (w.alloc (.cells #[v0, v1, v2, v3, v4, v5] 27)) v0 v1 v2 v3 v4 v5) := ⟨below_alloc (Below.refl _ _) _, heap_alloc_new w _⟩
  go_enter Tryd.func6, Tryd.ntmps6
  go_wp2_with (fail)
  refine (HKN.out _ HB0.out.bel).mono ?_
  rintro en w1 ⟨rfl, hb1⟩
  have HB1 := Aside0.mk (HB0.out.below hb1)
  obtain ⟨k0, k1, k2, k3, k4, k5⟩ := HB1.out.cells
  clear hb1 HKN HB0
  go_wp2_with (fail)
  refine (HSM.out _ HB1.out.bel).mono ?_
  rintro en w2 ⟨rfl, hb2⟩
  have HB2 := Aside0.mk (HB1.out.below hb2)
  clear hb2 HSM k0 k1 k2 k3 k4 k5 HB1
  obtain ⟨k0, k1, k2, k3, k4, k5⟩ := HB2.out.cells
  cases r with
  | false =>
    go_wp2_with (fail)
    go_ret
    exact ⟨rfl, HB2.out.bel⟩
  | true =>
    have htot := HSR.out rfl
    have HNR := Aside0.mk (total_near htot)
    have HTO := Aside0.mk htot
    clear htot HSR
    cases hok : okB g with
    | false =>
      have HOK := Aside0.mk hok
      clear hok
      go_wp2_with (fail)
      refine (HWB.out HNR.out HOK.out _ HB2.out.bel).mono ?_
      rintro en w3 ⟨rfl, hb3⟩
      have HB3 := Aside0.mk (HB2.out.below hb3)
      clear hb3 HWB HB2 k0 k1 k2 k3 k4 k5
      obtain ⟨k0, k1, k2, k3, k4, k5⟩ := HB3.out.cells
      have HCC := Aside0.mk (HCK.out HNR.out w3 HB3.out.bel)
      rw [HOK.out] at HCC
      go_wp2_with (fail)
      refine HCC.out.mono ?_
      rintro en w4 ⟨rfl, hb4⟩
      have HB4 := Aside0.mk (HB3.out.below hb4)
      clear hb4 HCC HCK HB3 k0 k1 k2 k3 k4 k5
      go_wp2_with (go_at_call 12; refine (num_is _ _).mono ?_; rintro en w' ⟨rfl, rfl⟩)
      go_ret
      exact ⟨rfl, HB4.out.bel⟩
    | true =>
      have HOK := Aside0.mk hok
      clear hok
      go_wp2_with (fail)
      refine (HWO.out HNR.out HOK.out _ HB2.out.bel).mono ?_
      rintro en w3 ⟨v, rfl, hv, hb3⟩
      obtain ⟨Ai, ci, rfl, hli, hCi⟩ := Kd.R_reads hv
      have HB3 := Aside0.mk (HB2.out.below hb3)
      have HIM := Aside0.mk hCi
      have HLI := Aside0.mk hli
      clear hb3 HWO HB2 k0 k1 k2 k3 k4 k5 hv hli hCi
      obtain ⟨k0, k1, k2, k3, k4, k5⟩ := HB3.out.cells
      have HCC := Aside0.mk (HCK.out HNR.out w3 HB3.out.bel)
      rw [HOK.out] at HCC
      go_wp2_with (fail)
      refine HCC.out.mono ?_
      rintro en w4 ⟨rfl, hb4⟩
      have HB4 := Aside0.mk (HB3.out.below hb4)
      have HRD := Aside0.mk (Read_any Ai ci (image g) w4 (image_bytes g) (by have := (good_of HNR.out HWD.out HOK.out).size HTO.out; omega) HLI.out (Kd.C_below HIM.out hb4) (HT.out.below HB4.out.bel))
      rw [round_trip HNR.out HWD.out HOK.out] at HRD
      clear hb4 HCC HCK HB3 k0 k1 k2 k3 k4 k5 HIM
      go_wp2_with (go_at_call 12; refine (num_is _ _).mono ?_; rintro en w' ⟨rfl, rfl⟩)
      refine HRD.out.mono ?_
      rintro en w5 ⟨hb5, u0, u1, u2, u3, u4, rfl, hgot⟩
      obtain ⟨⟨A0, A1, A2, A3, A4, c0, c1, c2, c3, c4⟩, e, hfair⟩ := hgot.fair
      simp only [gcells, List.cons.injEq, and_true] at e
      obtain ⟨rfl, rfl, rfl, rfl, rfl⟩ := e
      have HB5 := Aside0.mk (HB4.out.below hb5)
      obtain ⟨k0, k1, k2, k3, k4, k5⟩ := (HB5.out.below (below_alloc (Below.refl _ _) (.cells #[.slice A0 g.objs.length c0, .slice A1 g.slots.length c1, .slice A2 g.handles.length c2, .slice A3 g.registry.length c3, .slice A4 g.queue.length c4, .int .u64 g.next] 27))).cells
      have HS := Aside0.mk (HSG.out HNR.out ⟨A0, A1, A2, A3, A4, c0, c1, c2, c3, c4⟩ (w5.alloc (.cells #[.slice A0 g.objs.length c0, .slice A1 g.slots.length c1, .slice A2 g.handles.length c2, .slice A3 g.registry.length c3, .slice A4 g.queue.length c4, .int .u64 g.next] 27)) (below_alloc HB5.out.bel _) (hfair.rd.below (below_alloc (Below.refl _ _) _)))
      clear hb5 HRD HSG HB4 hgot hfair
      go_wp2_with (go_at_call 12; refine (num_is _ _).mono ?_; rintro en w' ⟨rfl, rfl⟩)
      refine HS.out.mono ?_
      rintro en w6 ⟨rfl, hb6⟩
      have HB6 := Aside0.mk (below_step (below_alloc HB5.out.bel _) hb6)
      clear hb6 HS k0 k1 k2 k3 k4 k5
      go_wp2_with (go_at_call 12; refine (num_is _ _).mono ?_; rintro en w' ⟨rfl, rfl⟩)
      go_ret
      exact ⟨rfl, HB6.out⟩
end Go.Proofs.YtihjjkoddphmiaaDoor.img
