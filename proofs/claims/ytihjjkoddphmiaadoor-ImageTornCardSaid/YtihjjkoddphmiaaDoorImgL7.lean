/-
  The walk of middenlaw16.ImageOne, fn 7.
-/
import Derived.Test.YtihjjkoddphmiaaDoorImgGot
namespace Go.Proofs.YtihjjkoddphmiaaDoor.img
open Go.RowKit Go.Proofs.YtihjjkoddphmiaaDoorW.PrintWords Go.Proofs.YtihjjkoddphmiaaDoorW.PrintLast Go.Proofs.YtihjjkoddphmiaaDoorW.PrintMore Go.Proofs.YtihjjkoddphmiaaDoor.PImageRound
set_option linter.unusedVariables false
set_option linter.unusedSimpArgs false

theorem Got.below {w w' w'' : World} {g : Gr} {v0 v1 v2 v3 v4 : Value} (h : Got w w' g v0 v1 v2 v3 v4) (hb : Below w'.heap.size w' w'') : Got w w'' g v0 v1 v2 v3 v4 :=
  ⟨Kd.R_below h.r0 hb, Kd.R_below h.r1 hb, Kd.R_below h.r2 hb, Kd.R_below h.r3 hb, Kd.R_below h.r4 hb⟩
/-- The graph that was handed back, its rows' places told. -/
abbrev GotL (w w' : World) (L : Lay) (g : Gr) : Prop := Got w w' g (.slice L.A0 g.objs.length L.c0) (.slice L.A1 g.slots.length L.c1) (.slice L.A2 g.handles.length L.c2) (.slice L.A3 g.registry.length L.c3) (.slice L.A4 g.queue.length L.c4)
theorem fair_at {w w' : World} {L : Lay} {g : Gr} (h : GotL w w' L g) : Fair w' L g := by
  obtain ⟨⟨A0, A1, A2, A3, A4, c0, c1, c2, c3, c4⟩, e, hf⟩ := h.fair
  obtain ⟨B0, B1, B2, B3, B4, d0, d1, d2, d3, d4⟩ := L
  simp only [gcells, List.cons.injEq, and_true, Value.slice.injEq, true_and] at e
  obtain ⟨⟨rfl, rfl⟩, ⟨rfl, rfl⟩, ⟨rfl, rfl⟩, ⟨rfl, rfl⟩, ⟨rfl, rfl⟩⟩ := e
  exact hf

set_option maxHeartbeats 8000000 in
set_option maxRecDepth 100000 in
theorem one_any (A : Option Addr) (c : Nat) (bs : List Int) (w : World) (hT : Tabs w) (hbb : Bytes bs) (hlc : bs.length ≤ c) (hbl : bs.length ≤ 9223372036854775807) (hC : Kd.C (Kd.int .u8) w A bs.length bs) :
    Calls Tryd.prog 7 #[.slice A bs.length c] w fun e w' => e = .returned (.bool true) ∧ Below w.heap.size w w' := by
  have HT := Aside0.mk hT
  have HC := Aside0.mk hC
  have HBB := Aside0.mk hbb
  have HKN := Aside0.mk (opening_any w hT)
  clear hT hC hbb
  go_enter Tryd.func7, Tryd.ntmps7
  go_wp2_with (fail)
  refine HKN.out.mono ?_
  rintro en w1 ⟨rfl, hb1⟩
  have HB1 := Aside0.mk hb1
  clear hb1 HKN
  by_cases hbig : 131072 < bs.length
  · have hbig2 : (131072 : Int) < (bs.length : Int) := by omega
    go_wp2_with (fail)
    go_ret
    exact ⟨rfl, HB1.out⟩
  · have hbig2 : ¬ ((131072 : Int) < (bs.length : Int)) := by omega
    have HRD := Aside0.mk (Read_any A c bs w1 HBB.out (by omega) hlc (Kd.C_below HC.out HB1.out) (HT.out.below HB1.out))
    have HRS : Aside0 (∀ g q, readR bs = .ok g q → bs = image g ∧ okB g = true ∧ Near g ∧ Words g) := ⟨fun g q h => by
      obtain ⟨h1, h2, g0, h3, rfl⟩ := read_says HBB.out h
      have hf := graph_fits h3
      exact ⟨h1, h2, hf.near (by omega), hf.words⟩⟩
    have HFI := Aside0.mk (read_fine bs)
    obtain ⟨R, hR⟩ : ∃ R, readR bs = R := ⟨_, rfl⟩
    rw [hR] at HRD HRS HFI
    clear hR
    go_wp2_with (fail)
    refine HRD.out.mono ?_
    clear HRD
    cases R with
    | bad q code =>
      rintro en w2 ⟨hb2, rfl⟩
      have HB2 := Aside0.mk (below_step HB1.out hb2)
      have hcode : ¬ (code = 0) := by have := HFI.out.2; omega
      have hq : (q : Int) ≤ (bs.length : Int) := by have := HFI.out.1; omega
      have hq0 : (0 : Int) ≤ (q : Int) := by omega
      clear hb2 HRS HFI
      go_wp2_with (go_at_call 12; refine (num_is _ _).mono ?_; rintro en w' ⟨rfl, rfl⟩)
      go_ret
      exact ⟨rfl, below_alloc HB2.out _⟩
    | ok g q =>
      rintro en w2 ⟨hb2, v0, v1, v2, v3, v4, rfl, hgot⟩
      obtain ⟨himg, hok, hnear, hwords⟩ := HRS.out g q rfl
      obtain ⟨⟨A0, A1, A2, A3, A4, c0, c1, c2, c3, c4⟩, e, hfair⟩ := hgot.fair
      simp only [gcells, List.cons.injEq, and_true] at e
      obtain ⟨rfl, rfl, rfl, rfl, rfl⟩ := e
      have HB2 := Aside0.mk (below_step HB1.out hb2)
      have HG2 : Aside0 (GotL w1 w2 ⟨A0, A1, A2, A3, A4, c0, c1, c2, c3, c4⟩ g) := ⟨hgot⟩
      have HNR := Aside0.mk hnear
      have HWD := Aside0.mk hwords
      have HOK := Aside0.mk hok
      have HIM := Aside0.mk himg
      clear hb2 HRS HFI hgot hfair hnear hwords himg hok
      obtain ⟨L, hL⟩ : ∃ L : Lay, L = ⟨A0, A1, A2, A3, A4, c0, c1, c2, c3, c4⟩ := ⟨_, rfl⟩
      have HW3 : Aside0 (Below w.heap.size w (w2.alloc (.cells #[.slice A0 g.objs.length c0, .slice A1 g.slots.length c1, .slice A2 g.handles.length c2, .slice A3 g.registry.length c3, .slice A4 g.queue.length c4, .int .u64 g.next] 27)) ∧ GotL w1 (w2.alloc (.cells #[.slice A0 g.objs.length c0, .slice A1 g.slots.length c1, .slice A2 g.handles.length c2, .slice A3 g.registry.length c3, .slice A4 g.queue.length c4, .int .u64 g.next] 27)) ⟨A0, A1, A2, A3, A4, c0, c1, c2, c3, c4⟩ g ∧ (w2.alloc (.cells #[.slice A0 g.objs.length c0, .slice A1 g.slots.length c1, .slice A2 g.handles.length c2, .slice A3 g.registry.length c3, .slice A4 g.queue.length c4, .int .u64 g.next] 27)).heap[w2.heap.size]? = some (.cells #[.slice A0 g.objs.length c0, .slice A1 g.slots.length c1, .slice A2 g.handles.length c2, .slice A3 g.registry.length c3, .slice A4 g.queue.length c4, .int .u64 g.next] 27 (0, 0))) :=
        ⟨below_alloc HB2.out _, HG2.out.below (below_alloc (Below.refl _ _) _), heap_alloc_new w2 _⟩
      have HCK := Aside0.mk (Check_any ⟨A0, A1, A2, A3, A4, c0, c1, c2, c3, c4⟩ g HNR.out.tame _ (fair_at HW3.out.2.1).rd (HT.out.below HW3.out.1))
      rw [HOK.out] at HCK
      go_wp2_with (go_at_call 12; refine (num_is _ _).mono ?_; rintro en w' ⟨rfl, rfl⟩)
      refine HCK.out.mono ?_
      rintro en w4 ⟨rfl, hb4⟩
      have HB4 := Aside0.mk (below_step HW3.out.1 hb4)
      have HG4 := Aside0.mk (HW3.out.2.1.below hb4)
      have hblk := blk_below HW3.out.2.2 hb4
      have k0 : w4.cell? ⟨w2.heap.size, 0, none⟩ = some (.slice A0 g.objs.length c0) := (blk_cell hblk 0).trans rfl
      have k1 : w4.cell? ⟨w2.heap.size, 1, none⟩ = some (.slice A1 g.slots.length c1) := (blk_cell hblk 1).trans rfl
      have k2 : w4.cell? ⟨w2.heap.size, 2, none⟩ = some (.slice A2 g.handles.length c2) := (blk_cell hblk 2).trans rfl
      have k3 : w4.cell? ⟨w2.heap.size, 3, none⟩ = some (.slice A3 g.registry.length c3) := (blk_cell hblk 3).trans rfl
      have k4 : w4.cell? ⟨w2.heap.size, 4, none⟩ = some (.slice A4 g.queue.length c4) := (blk_cell hblk 4).trans rfl
      have k5 : w4.cell? ⟨w2.heap.size, 5, none⟩ = some (.int .u64 g.next) := (blk_cell hblk 5).trans rfl
      have hf4 := fair_at HG4.out
      have HWR := Aside0.mk (Write_ok ⟨A0, A1, A2, A3, A4, c0, c1, c2, c3, c4⟩ g HNR.out HWD.out w4 hf4.rd (HT.out.below HB4.out) HOK.out hf4.h0 hf4.h1 hf4.h2 hf4.h4)
      clear hb4 hblk hf4 HCK HW3 HG2
      go_wp2_with (go_at_call 12; refine (num_is _ _).mono ?_; rintro en w' ⟨rfl, rfl⟩)
      refine HWR.out.mono ?_
      rintro en w5 ⟨v, rfl, hv, hb5⟩
      obtain ⟨Ai, ci, rfl, hli, hCi⟩ := Kd.R_reads hv
      have HB5 := Aside0.mk (below_step HB4.out hb5)
      have HS := Aside0.mk (same_any (image_bytes g) HBB.out hCi hli (Kd.C_below HC.out HB5.out) hlc)
      have e1 : decide (image g = bs) = true := decide_eq_true HIM.out.symm
      rw [e1] at HS
      clear hv hb5 HWR k0 k1 k2 k3 k4 k5 hli hCi
      go_wp2_with (go_at_call 12; refine (num_is _ _).mono ?_; rintro en w' ⟨rfl, rfl⟩)
      refine HS.out.mono ?_
      rintro en w6 ⟨rfl, hb6⟩
      have HB6 := Aside0.mk (below_step HB5.out hb6)
      clear hb6 HS
      go_wp2_with (go_at_call 12; refine (num_is _ _).mono ?_; rintro en w' ⟨rfl, rfl⟩)
      go_ret
      exact ⟨rfl, HB6.out⟩
end Go.Proofs.YtihjjkoddphmiaaDoor.img
