/-
  The walk of image.Check over the walks by hand.
-/
import Derived.Test.YtihjjkoddphmiaaGreatDoorNIm3
import Derived.Test.YtihjjkoddphmiaaGreatDoorNSmG
namespace Go.Proofs.YtihjjkoddphmiaaGreatDoor.img
open Go.RowKit Go.Proofs.YtihjjkoddphmiaaGreatDoorW.PrintWords Go.Proofs.YtihjjkoddphmiaaGreatDoorW.PrintLast Go.Proofs.YtihjjkoddphmiaaGreatDoorW.PrintMore Go.Proofs.YtihjjkoddphmiaaGreatDoor.PImageApart
set_option linter.unusedVariables false
set_option linter.unusedSimpArgs false

set_option maxHeartbeats 8000000 in
set_option maxRecDepth 100000 in
theorem holders_hand (L : Lay) (g : Gr) (hm : Mild g) (w : World) (hR : Rd w L g) :
  Calls Tryz.prog 71 #[.agg (gcells L g).toArray] w fun e w' => e = .returned (.bool (holdB g)) ∧ Below w.heap.size w w' := by
 have HNM := Aside0.mk (fun (wx : World) (hb : Below w.heap.size w wx) (A : Option Addr) (c : Nat) (l : List Int) (least : Int) (hl : l.length ≤ 1000000) (hr : Kd.C (Kd.int .i64) wx A l.length l) (hc : l.length ≤ c) => nums_any L g hm A c l least wx (hR.below hb) hl hr hc)
 have HFN := Aside0.mk (fun (wx : World) (hb : Below w.heap.size w wx) => (registry_ev g hm.objs).rounds)
 obtain ⟨A0, A1, A2, A3, A4, k0, k1, k2, k3, k4⟩ := L
 obtain ⟨objs, slots, handles, registry, queue, next⟩ := g
 change Aside0 (∀ (wx : World) (_ : Below w.heap.size w wx) (A : Option Addr) (c : Nat) (l : List Int) (least : Int) (_ : l.length ≤ 1000000) (_ : Kd.C (Kd.int .i64) wx A l.length l) (_ : l.length ≤ c), Calls Tryz.prog 93 #[.agg #[.slice A0 objs.length k0, .slice A1 slots.length k1, .slice A2 handles.length k2, .slice A3 registry.length k3, .slice A4 queue.length k4, .int .u64 next], .slice A l.length c, .int .i64 least] wx fun e w' => e = .returned (.bool (numsB objs.length least l)) ∧ Below wx.heap.size wx w') at HNM
 have HR := Aside0.mk hR
 have HM := Aside0.mk hm
 have hl0 : objs.length ≤ 1000000 := hm.objs
 have hl1 : slots.length ≤ 1000000 := hm.slots
 have hl2 : handles.length ≤ 1000000 := hm.handles
 have hl3 : registry.length ≤ 1000000 := hm.registry
 have hl4 : queue.length ≤ 1000000 := hm.queue
 obtain ⟨tl, htl⟩ : ∃ tl, tailB ⟨objs, slots, handles, registry, queue, next⟩ = tl := ⟨_, rfl⟩
 have HTL := Aside0.mk htl
 unfold holdB
 simp only
 rw [htl]
 obtain ⟨W, hW⟩ : ∃ W, W = w.alloc (.cells #[.slice A0 objs.length k0, .slice A1 slots.length k1, .slice A2 handles.length k2, .slice A3 registry.length k3, .slice A4 queue.length k4, .int .u64 next] 44) := ⟨_, rfl⟩
 have HB : Aside0 (Below w.heap.size w W) := ⟨by rw [hW]; exact below_alloc (Below.refl _ _) _⟩
 have HK : Aside0 (W.heap[w.heap.size]? = some (.cells #[.slice A0 objs.length k0, .slice A1 slots.length k1, .slice A2 handles.length k2, .slice A3 registry.length k3, .slice A4 queue.length k4, .int .u64 next] 44 (0, 0))) := ⟨by rw [hW]; exact heap_alloc_new w _⟩
 have HW := Aside0.mk hW
 clear hR hm hW htl
 by_cases s1 : slots.length < 1
 ·rw [if_pos s1]
  go_enter Tryz.func71, Tryz.ntmps71
  go_wp2
  go_ret
  exact ⟨rfl, below_alloc (Below.refl _ _) _⟩
 by_cases s2 : slots.length > 8
 ·rw [if_neg s1, if_pos s2]
  go_enter Tryz.func71, Tryz.ntmps71
  go_wp2
  go_ret
  exact ⟨rfl, below_alloc (Below.refl _ _) _⟩
 by_cases s3 : handles.length > 1024
 ·rw [if_neg s1, if_neg s2, if_pos s3]
  go_enter Tryz.func71, Tryz.ntmps71
  go_wp2
  go_ret
  exact ⟨rfl, below_alloc (Below.refl _ _) _⟩
 rw [if_neg s1, if_neg s2, if_neg s3]
 obtain ⟨res, hres⟩ : ∃ res, res = (slotsB objs.length (slots.drop 0) && tl) := ⟨_, rfl⟩
 rw [List.drop_zero] at hres
 rw [← hres]
 have HRES : Aside0 (res = (slotsB objs.length (slots.drop 0) && tl)) := ⟨hres⟩
 clear hres
 have HBX := Aside0.mk (Below.refl W.heap.size W)
 have c0 : W.cell? ⟨w.heap.size, 0, none⟩ = some (.slice A0 objs.length k0) := (blk_cell HK.out 0).trans rfl
 have c1 : W.cell? ⟨w.heap.size, 1, none⟩ = some (.slice A1 slots.length k1) := (blk_cell HK.out 1).trans rfl
 have c2 : W.cell? ⟨w.heap.size, 2, none⟩ = some (.slice A2 handles.length k2) := (blk_cell HK.out 2).trans rfl
 have t1 : decide ((slots.length : Int) < 1) = false := by simp; omega
 have t2 : decide (8 < (slots.length : Int)) = false := by simp; omega
 have t3 : decide (1024 < (handles.length : Int)) = false := by simp; omega
 go_enter Tryz.func71, Tryz.ntmps71
 go_upto_region 1 with (fail)
 rw [← HW.out]
 go_wp2_with (fail)
 go_loopw [33] (fun i wr => ∃ t : Nat, t ≤ slots.length ∧ i = .int .i64 t ∧ Aside0 (res = (slotsB objs.length (slots.drop t) && tl)) ∧ Aside0 (Below W.heap.size W wr)) (fun i _ => slots.length - (intOf i).toNat)
 case atStart => exact ⟨0, Nat.zero_le _, rfl, HRES, HBX⟩
 case round =>
  clear HRES HBX c0 c1 c2
  obtain ⟨t, ht, rfl, HRES, HBX⟩ := hrel
  have HKX := Aside0.mk (blk_below HK.out HBX.out)
  have c0 : wr.cell? ⟨w.heap.size, 0, none⟩ = some (.slice A0 objs.length k0) := (blk_cell HKX.out 0).trans rfl
  have c1 : wr.cell? ⟨w.heap.size, 1, none⟩ = some (.slice A1 slots.length k1) := (blk_cell HKX.out 1).trans rfl
  have c2 : wr.cell? ⟨w.heap.size, 2, none⟩ = some (.slice A2 handles.length k2) := (blk_cell HKX.out 2).trans rfl
  have c3 : wr.cell? ⟨w.heap.size, 3, none⟩ = some (.slice A3 registry.length k3) := (blk_cell HKX.out 3).trans rfl
  have c4 : wr.cell? ⟨w.heap.size, 4, none⟩ = some (.slice A4 queue.length k4) := (blk_cell HKX.out 4).trans rfl
  have c5 : wr.cell? ⟨w.heap.size, 5, none⟩ = some (.int .u64 next) := (blk_cell HKX.out 5).trans rfl
  by_cases hlt : t < slots.length
  ·obtain ⟨ad1, A5, k5, rfl, h5, hC5⟩ := fr_at (HR.out.below (below_step HB.out HBX.out)).r1 hlt
   have HD : Aside0 (slots.drop t = slots.getD t [] :: slots.drop (t + 1)) := ⟨drop_get slots t [] hlt⟩
   have hmem : slots.getD t [] ∈ slots := get_mem hlt
   have HMF := Aside0.mk (And.intro (HM.out.frames _ hmem) (HM.out.slot _ hmem))
   clear hmem
   generalize slots.getD t [] = fr at *
   have hlf : fr.length ≤ 1000000 := HMF.out.1
   have HC5 := Aside0.mk hC5
   rw [HD.out, slotsB, Bool.and_assoc] at HRES
   have HRS : Aside0 (res = (framesB objs.length ((0 : Nat) : Int) (fr.drop 0) && (slotsB objs.length (slots.drop (t + 1)) && tl))) := HRES
   have p1 : (t : Int) < (slots.length : Int) := by omega
   clear HRES HD hC5
   go_wp2_with (fail)
   have HX2 := Aside0.mk (Below.refl wr.heap.size wr)
   go_loopw [5, 39] (fun s i w2 => ∃ j sm : Nat, j ≤ fr.length ∧ sm ≤ j * 1000000 ∧ s = .int .i64 sm ∧ i = .int .i64 j ∧ Aside0 (res = (framesB objs.length (sm : Int) (fr.drop j) && (slotsB objs.length (slots.drop (t + 1)) && tl))) ∧ Aside0 (Below wr.heap.size wr w2)) (fun _ i _ => fr.length - (intOf i).toNat)
   case atStart => exact ⟨0, 0, by omega, by omega, rfl, rfl, HRS, HX2⟩
   case round =>
    clear HRS HX2
    obtain ⟨j, sm, hj, hsm, rfl, rfl, HRS, HX2⟩ := hrel
    have HB2 := Aside0.mk (below_step HB.out (below_step HBX.out HX2.out))
    have HBX2 := Aside0.mk (below_step HBX.out HX2.out)
    replace c0 := pw_cell_below HX2.out c0
    replace c1 := pw_cell_below HX2.out c1
    replace c2 := pw_cell_below HX2.out c2
    replace c3 := pw_cell_below HX2.out c3
    replace c4 := pw_cell_below HX2.out c4
    replace c5 := pw_cell_below HX2.out c5
    have hsm2 : sm ≤ 1000000000000 := by omega
    by_cases hlj : j < fr.length
    ·obtain ⟨ad2, A6, k6, rfl, h6, hl6, hC6⟩ := at_L2 (Kd.C_below HC5.out HX2.out) (j : Int) (by omega) (by show (j : Int) < (fr.length : Int); omega)
     have hrd : rd_L2 fr (j : Int) = fr.getD j [] := by simp [rd_L2]
     rw [hrd] at h6 hl6 hC6
     have HD : Aside0 (fr.drop j = fr.getD j [] :: fr.drop (j + 1)) := ⟨drop_get fr j [] hlj⟩
     have hmem : fr.getD j [] ∈ fr := get_mem hlj
     have hlx : (fr.getD j []).length ≤ 1000000 := HMF.out.2 _ hmem
     clear hrd hmem
     generalize fr.getD j [] = f at *
     have h6' := h6
     simp only [Int.toNat_natCast] at h6'
     rw [HD.out, framesB] at HRS
     clear h6 HD
     have p2 : (j : Int) < (fr.length : Int) := by omega
     have hw : IntKind.i64.wrap ((sm : Int) + (f.length : Int)) = (sm : Int) + f.length := by rw [IntKind.wrap_i64]; omega
     by_cases q1 : f.length < 1
     ·rw [if_pos q1] at HRS
      obtain rfl : res = false := by simpa using HRS.out
      have q1' : decide ((f.length : Int) < 1) = true := by simp; omega
      go_wp2_with (fail)
      go_ret
      exact ⟨rfl, HB2.out⟩
     rw [if_neg q1] at HRS
     have q1' : decide ((f.length : Int) < 1) = false := by simp; omega
     have HN := Aside0.mk (HNM.out wr HB2.out A6 k6 f 0 hlx hC6 hl6)
     obtain ⟨bn, hbn⟩ : ∃ bn, numsB objs.length 0 f = bn := ⟨_, rfl⟩
     rw [hbn] at HRS HN
     clear hbn hC6 hl6
     go_wp2_with (fail)
     refine HN.out.mono ?_
     rintro en w3 ⟨rfl, hb3⟩
     have HB3 := Aside0.mk (below_step HB2.out hb3)
     have HX3 := Aside0.mk (below_step HX2.out hb3)
     clear HN hb3
     cases bn with
     | false =>
      obtain rfl : res = false := by simpa using HRS.out
      go_wp2_with (fail)
      go_ret
      exact ⟨rfl, HB3.out⟩
     | true =>
      rw [if_pos rfl] at HRS
      have HRS2 : Aside0 (res = (framesB objs.length ((sm + f.length : Nat) : Int) (fr.drop (j + 1)) && (slotsB objs.length (slots.drop (t + 1)) && tl))) := ⟨by rw [HRS.out]; congr 2⟩
      go_wp2_with (fail)
      go_roundw
      case rel => exact ⟨j + 1, sm + f.length, by omega, by omega, by go_num, by go_num, HRS2, HX3⟩
      case measure => simp [intOf]; omega
    ·have hnil : fr.drop j = [] := List.drop_eq_nil_of_le (by omega)
     rw [hnil, framesB] at HRS
     clear hnil
     by_cases q4 : (sm : Int) ≤ 4096
     ·have HRES : Aside0 (res = (slotsB objs.length (slots.drop (t + 1)) && tl)) := ⟨by rw [HRS.out, decide_eq_true q4, Bool.true_and]⟩
      have q4' : ¬ (4096 : Int) < (sm : Int) := by omega
      go_wp2_with (fail)
      go_roundw
      case rel => exact ⟨t + 1, by omega, by go_num, HRES, HBX2⟩
      case measure => simp [intOf]; omega
     ·obtain rfl : res = false := by rw [HRS.out, decide_eq_false q4, Bool.false_and]
      have q4' : (4096 : Int) < (sm : Int) := by omega
      go_wp2_with (fail)
      go_ret
      exact ⟨rfl, HB2.out⟩
  ·have HT : Aside0 (res = tl) := ⟨by
    have hnil : slots.drop t = [] := List.drop_eq_nil_of_le (by omega)
    rw [HRES.out, hnil, slotsB, Bool.true_and]⟩
   have HB2 := Aside0.mk (below_step HB.out HBX.out)
   clear HRES
   unfold tailB at HTL
   simp only at HTL
   have HN1 := Aside0.mk (HNM.out wr HB2.out A2 k2 handles (-1) hl2 (HR.out.below HB2.out).r2 HR.out.h2)
   obtain ⟨b1, hb1⟩ : ∃ b1, numsB objs.length (-1) handles = b1 := ⟨_, rfl⟩
   obtain ⟨bq, hbq⟩ : ∃ bq, numsB objs.length 1 queue = bq := ⟨_, rfl⟩
   have HBQ := Aside0.mk hbq
   rw [hb1] at HN1 HTL
   rw [hbq] at HTL
   clear hb1 hbq
   go_wp2_with (fail)
   refine HN1.out.mono ?_
   rintro en w3 ⟨rfl, hb3⟩
   have HB3 := Aside0.mk (below_step HB2.out hb3)
   replace c0 := pw_cell_below hb3 c0
   replace c1 := pw_cell_below hb3 c1
   replace c2 := pw_cell_below hb3 c2
   replace c3 := pw_cell_below hb3 c3
   replace c4 := pw_cell_below hb3 c4
   replace c5 := pw_cell_below hb3 c5
   have HK3 := Aside0.mk (blk_below HKX.out hb3)
   clear hb3 HN1 HKX
   cases b1 with
   | false =>
    obtain rfl : res = false := by rw [HT.out, ← HTL.out]; rfl
    go_wp2_with (fail)
    go_ret
    exact ⟨rfl, HB3.out⟩
   | true =>
    have HN2 := Aside0.mk (HNM.out w3 HB3.out A4 k4 queue 1 hl4 (HR.out.below HB3.out).r4 HR.out.h4)
    rw [HBQ.out] at HN2
    go_wp2_with (fail)
    refine HN2.out.mono ?_
    rintro en w4 ⟨rfl, hb4⟩
    have HB4 := Aside0.mk (below_step HB3.out hb4)
    replace c0 := pw_cell_below hb4 c0
    replace c1 := pw_cell_below hb4 c1
    replace c2 := pw_cell_below hb4 c2
    replace c3 := pw_cell_below hb4 c3
    replace c4 := pw_cell_below hb4 c4
    replace c5 := pw_cell_below hb4 c5
    have HK4 := Aside0.mk (blk_below HK3.out hb4)
    clear hb4 HN2 HK3 HB3
    cases bq with
    | false =>
     obtain rfl : res = false := by rw [HT.out, ← HTL.out]; rfl
     go_wp2_with (fail)
     go_ret
     exact ⟨rfl, HB4.out⟩
    | true =>
     have HRES : Aside0 (res = regB ⟨objs, slots, handles, registry, queue, next⟩) := ⟨by rw [HT.out, ← HTL.out]; rfl⟩
     obtain ⟨k, hk⟩ := HFN.out w4 HB4.out
     have hRW := HR.out.below HB4.out
     have HF := Aside0.mk (image_registry.calls k A0 k0 objs A1 k1 slots A2 k2 handles A3 k3 registry A4 k4 queue next _ w4 hRW.r0 hRW.h0 hRW.r1 hRW.h1 hRW.r2 hRW.h2 hRW.r3 hRW.h3 hRW.r4 hRW.h4 hk)
     have hfl : (finals objs).length ≤ 1000000 := by
      have := finalsFrom_len objs 0
      unfold finals
      omega
     unfold regB at HRES
     simp only at HRES
     change Aside0 (Calls Tryz.prog 27 _ w4 fun e w' => ∃ v0_ : Value, e = .returned v0_ ∧ Kd.R (Kd.int .i64) 3 w' w4.heap.size (fun _ => True) v0_ (finals objs) ∧ Below w4.heap.size w4 w') at HF
     clear HFN hk
     generalize finals objs = fs at HF hfl HRES
     clear HT HTL hRW HNM
     go_wp2_with (fail)
     refine HF.out.mono ?_
     rintro en w1 ⟨v5, rfl, hv5, hb1⟩
     obtain ⟨A5, k5, rfl, h5, hC5⟩ := Kd.R_reads hv5
     have HC5 := Aside0.mk hC5
     have HB1 := Aside0.mk (below_step HB4.out hb1)
     have HK1 := Aside0.mk (blk_below HK4.out hb1)
     replace c0 := pw_cell_below hb1 c0
     replace c3 := pw_cell_below hb1 c3
     replace c4 := pw_cell_below hb1 c4
     clear HF hb1 hv5 hC5 c1 c2 c5 HK4 HB4
     by_cases s1 : fs.length = registry.length
     case neg =>
      obtain rfl : res = false := by rw [HRES.out, if_neg s1]
      have s2 : ¬ (fs.length : Int) = (registry.length : Int) := by omega
      go_wp2_with (fail)
      go_ret
      exact ⟨rfl, HB1.out⟩
     have HRS := HRES
     rw [if_pos s1] at HRS
     have s2 : (fs.length : Int) = (registry.length : Int) := by omega
     have HX := Aside0.mk (Below.refl w1.heap.size w1)
     clear HRES
     go_wp2_with (fail)
     go_loopw [82] (fun i wr => ∃ t : Nat, t ≤ fs.length ∧ i = .int .i64 t ∧ Aside0 (fs.take t = registry.take t) ∧ Aside0 (Below w1.heap.size w1 wr)) (fun i _ => fs.length - (intOf i).toNat)
     case atStart => exact ⟨0, Nat.zero_le _, rfl, ⟨rfl⟩, HX⟩
     case round =>
      clear HX
      obtain ⟨t, ht, rfl, HEQ, HX⟩ := hrel
      have HKX := Aside0.mk (blk_below HK1.out HX.out)
      have c0 : wr.cell? ⟨w.heap.size, 0, none⟩ = some (.slice A0 objs.length k0) := (blk_cell HKX.out 0).trans rfl
      have c3 : wr.cell? ⟨w.heap.size, 3, none⟩ = some (.slice A3 registry.length k3) := (blk_cell HKX.out 3).trans rfl
      have c4 : wr.cell? ⟨w.heap.size, 4, none⟩ = some (.slice A4 queue.length k4) := (blk_cell HKX.out 4).trans rfl
      by_cases hlt : t < fs.length
      ·obtain ⟨a5, rfl, q5⟩ := num_at (Kd.C_below HC5.out HX.out) hlt
       obtain ⟨a3, rfl, q3⟩ := num_at (Kd.C_below (HR.out.below HB1.out).r3 HX.out) (show t < registry.length by omega)
       have p1 : (t : Int) < (fs.length : Int) := by omega
       have p2 : (t : Int) < (registry.length : Int) := by omega
       have HS : Aside0 (fs.take (t + 1) = fs.take t ++ [fs.getD t 0] ∧ registry.take (t + 1) = registry.take t ++ [registry.getD t 0]) := ⟨by
        constructor
        ·rw [List.take_succ_eq_append_getElem hlt, List.getD_eq_getElem?_getD, List.getElem?_eq_getElem hlt]; rfl
        ·rw [List.take_succ_eq_append_getElem (show t < registry.length by omega), List.getD_eq_getElem?_getD, List.getElem?_eq_getElem (show t < registry.length by omega)]; rfl⟩
       generalize fs.getD t 0 = x at q5 HS
       generalize registry.getD t 0 = y at q3 HS
       by_cases exy : x = y
       ·subst exy
        have HN : Aside0 (fs.take (t + 1) = registry.take (t + 1)) := ⟨by rw [HS.out.1, HS.out.2, HEQ.out]⟩
        go_wp2_with (fail)
        go_wp2_with (fail)
        go_roundw
        case rel => exact ⟨t + 1, by omega, by go_num, HN, HX⟩
        case measure => simp [intOf]; omega
       ·obtain rfl : res = false := by
         have : fs ≠ registry := fun e => by
          have h1 := HS.out.1
          have h2 := HS.out.2
          rw [e] at h1
          rw [h1] at h2
          have h3 := List.append_inj_right' h2 rfl
          exact exy (by simpa using h3)
         rw [HRS.out, decide_eq_false this]
         simp
        go_wp2_with (fail)
        go_wp2_with (fail)
        go_ret
        exact ⟨rfl, below_step HB1.out HX.out⟩
      ·have HFR : Aside0 (fs = registry) := ⟨by
        have := HEQ.out
        rwa [List.take_of_length_le (by omega), List.take_of_length_le (by omega)] at this⟩
       have HRQ : Aside0 (res = queueB objs (List.replicate (objs.length + 1) false) (queue.drop 0)) := ⟨by rw [HRS.out, decide_eq_true HFR.out]; simp⟩
       have HB2 := Aside0.mk (below_step HB1.out HX.out)
       have hn0 : ((objs.length : Int) + 1).toNat = objs.length + 1 := by omega
       clear HRS HEQ HFR
       go_wp2_with (first | ((with_reducible refine gate_dst (N := 99) rfl ?_); refine Kd.R_make Kd.bool _ 4 rfl (N := 99) rfl 125 _ _ rfl ((objs.length : Int) + 1) rfl rfl Tryz.underlying125 (.bool false) 1 info4 rfl (by decide) (by omega) false (ok := fun _ => True) (okp := fun _ => True) rfl (fun _ hk => hk) trivial (by omega) (by omega) (Below.refl _ _) (Nat.le_refl _) ?_; intro v1 w3 ho hb hg hnew; rw [hn0] at ho; have HO := Aside0.mk ho; have HB3 := Aside0.mk hb; have c4x := pw_cell_below hb c4; clear ho hb hg hnew))
       obtain ⟨go, co, rfl, gbo, -, -⟩ := Kd.R_form HO.out (by simp)
       have HG := Aside0.mk gbo
       rw [List.length_replicate] at HO ⊢
       obtain ⟨W4, hW4⟩ : ∃ W4, wr = W4 := ⟨_, rfl⟩
       rw [hW4] at HO HB3 HB2 HG HKX
       have HT0 : Aside0 (Below W4.heap.size W4 w3 ∧ Kd.R Kd.bool 4 w3 W4.heap.size (fun _ => True) (.slice (some ⟨go, 0, none⟩) (objs.length + 1) co) (List.replicate (objs.length + 1) false) ∧ (List.replicate (objs.length + 1) false).length = objs.length + 1) := ⟨HB3.out, HO.out, by simp⟩
       clear HO HB3 gbo c0 c3 c4 HX hW4
       go_loopw [103] (fun i wr => ∃ (t : Nat) (seen : List Bool), t ≤ queue.length ∧ i = .int .i64 t ∧ Aside0 (res = queueB objs seen (queue.drop t)) ∧ Aside0 (Below W4.heap.size W4 wr ∧ Kd.R Kd.bool 4 wr W4.heap.size (fun _ => True) (.slice (some ⟨go, 0, none⟩) (objs.length + 1) co) seen ∧ seen.length = objs.length + 1)) (fun i _ => queue.length - (intOf i).toNat)
       case atStart => exact ⟨0, _, Nat.zero_le _, rfl, HRQ, HT0⟩
       case round =>
        clear HRQ HT0
        obtain ⟨t, seen, ht, rfl, HRQ, HT⟩ := hrel
        have HKY := Aside0.mk (blk_below HKX.out HT.out.1)
        have HRX := Aside0.mk ((HR.out.below HB2.out).below HT.out.1)
        have c0 : wr.cell? ⟨w.heap.size, 0, none⟩ = some (.slice A0 objs.length k0) := (blk_cell HKY.out 0).trans rfl
        have c4 : wr.cell? ⟨w.heap.size, 4, none⟩ = some (.slice A4 queue.length k4) := (blk_cell HKY.out 4).trans rfl
        by_cases hlt : t < queue.length
        ·obtain ⟨a4, rfl, q4⟩ := num_at HRX.out.r4 hlt
         have hb := nums_get HBQ.out (get_mem (d := 0) hlt)
         have HD : Aside0 (queue.drop t = queue.getD t 0 :: queue.drop (t + 1)) := ⟨drop_get queue t 0 hlt⟩
         generalize queue.getD t 0 = x at q4 hb HD
         obtain ⟨n, rfl⟩ : ∃ n : Nat, x = (n : Int) + 1 := ⟨(x - 1).toNat, by omega⟩
         have hn : n < objs.length := by omega
         obtain ⟨hx0, hf0⟩ := Kd.R_celln false HT.out.2.1 ((n : Int) + 1) (by omega) (by omega)
         obtain ⟨a0, A8, c8, A9, c9, rfl, -, o1, -⟩ := obj_at HRX.out.r0 hn
         rw [HD.out, queueB, show ((n : Int) + 1).toNat = n + 1 by omega, show ((n : Int) + 1 - 1).toNat = n by omega] at HRQ
         rw [show ((n : Int) + 1).toNat = n + 1 by omega] at hx0 hf0
         have hrd : rdOf false seen ((n : Int) + 1) = seen.getD (n + 1) false := by show seen.getD ((n : Int) + 1).toNat false = _; rw [show ((n : Int) + 1).toNat = n + 1 by omega]
         rw [hrd] at hx0
         have p1 : (t : Int) < (queue.length : Int) := by omega
         have p2 : (n : Int) + 1 < (objs.length : Int) + 1 := by omega
         have p3 : (n : Int) < (objs.length : Int) := by omega
         have p4 : (0 : Int) ≤ (n : Int) + 1 := by omega
         have p5 : ((n : Int) + 1).toNat = n + 1 := by omega
         have HBF := Aside0.mk (show Below w.heap.size w wr from HB2.out.trans (HT.out.1.mono HB2.out.size))
         obtain ⟨sb, hsb⟩ : ∃ sb, seen.getD (n + 1) false = sb := ⟨_, rfl⟩
         obtain ⟨kd, hkd⟩ : ∃ kd, (objs.getD n z66).f1 = kd := ⟨_, rfl⟩
         rw [hsb] at hx0 HRQ
         rw [hkd] at o1 HRQ
         clear hrd hsb hkd HD hb
         cases sb with
         | true =>
          obtain rfl : res = false := by rw [HRQ.out, if_pos rfl]
          go_wp2_with (fail)
          go_ret
          exact ⟨rfl, HBF.out⟩
         | false =>
          by_cases hk4 : kd = 4
          ·subst hk4
           obtain rfl : res = false := by rw [HRQ.out, if_neg (by decide), if_pos rfl]
           go_wp2_with (fail)
           go_ret
           exact ⟨rfl, HBF.out⟩
          ·have HN : Aside0 (res = queueB objs (seen.set (n + 1) true) (queue.drop (t + 1))) := ⟨by rw [HRQ.out, if_neg (by decide), if_neg hk4]⟩
           have hput := Kd.R_putn HT.out.2.1 ((n : Int) + 1) true
           rw [p5] at hput
           have HT2 : Aside0 (Below W4.heap.size W4 (wr.setCell ⟨go, n + 1, none⟩ (.bool true)) ∧ Kd.R Kd.bool 4 (wr.setCell ⟨go, n + 1, none⟩ (.bool true)) W4.heap.size (fun _ => True) (.slice (some ⟨go, 0, none⟩) (objs.length + 1) co) (seen.set (n + 1) true) ∧ (seen.set (n + 1) true).length = objs.length + 1) := ⟨HT.out.1.setCell HG.out _, hput, by rw [List.length_set]; exact HT.out.2.2⟩
           clear hput HRQ
           go_wp2_with (fail)
           go_roundw
           case rel => exact ⟨t + 1, _, by omega, by go_num, HN, HT2⟩
           case measure => simp [intOf]; omega
        ·obtain rfl : res = true := by
          have : queue.drop t = [] := List.drop_eq_nil_of_le (by omega)
          rw [this] at HRQ
          exact HRQ.out
         go_wp2_with (fail)
         go_ret
         exact ⟨rfl, HB2.out.trans (HT.out.1.mono HB2.out.size)⟩
end Go.Proofs.YtihjjkoddphmiaaGreatDoor.img
namespace Go.Proofs.YtihjjkoddphmiaaGreatDoor.img
open Go.RowKit Go.Proofs.YtihjjkoddphmiaaGreatDoorW.PrintWords Go.Proofs.YtihjjkoddphmiaaGreatDoorW.PrintLast Go.Proofs.YtihjjkoddphmiaaGreatDoorW.PrintMore Go.Proofs.YtihjjkoddphmiaaGreatDoor.PImageApart
set_option linter.unusedVariables false
set_option linter.unusedSimpArgs false

set_option maxHeartbeats 8000000 in
set_option maxRecDepth 100000 in
theorem Check_hand (L : Lay) (g : Gr) (ht : Tame g) (w : World) (hR : Rd w L g) (hT : Tabs w) :
  Calls Tryz.prog 28 #[.agg (gcells L g).toArray] w fun e w' => e = .returned (.int .i64 (if okB g = true then 0 else 164)) ∧ Below w.heap.size w w' := by
 have HP : Aside0 (objsB g = true → holdB g = true → Pts g) := ⟨pts_of ht.objs⟩
 have HM := Aside0.mk ht.mild
 have HO := Aside0.mk ht.objs
 have HR := Aside0.mk hR
 have HT := Aside0.mk hT
 obtain ⟨b1, hb1⟩ : ∃ b, objsB g = b := ⟨_, rfl⟩
 obtain ⟨b2, hb2⟩ : ∃ b, holdB g = b := ⟨_, rfl⟩
 obtain ⟨b3, hb3⟩ : ∃ b, knownB g = b := ⟨_, rfl⟩
 have hok : okB g = (if b1 = true then (if b2 = true then b3 else false) else false) := by unfold okB; rw [hb1, hb2, hb3]
 rw [hok]
 obtain ⟨C, hC⟩ : ∃ C : List Value, gcells L g = C := ⟨_, rfl⟩
 have HCl : Aside0 (C.length = 6) := ⟨by rw [← hC]; rfl⟩
 have H1 : Aside0 (∀ wx, Below w.heap.size w wx → Calls Tryz.prog 70 #[.agg C.toArray] wx fun e w' => e = .returned (.bool b1) ∧ Below wx.heap.size wx w') := ⟨fun wx hb => by rw [← hC, ← hb1]; exact objects_any L g HM.out HO.out wx (HR.out.below hb) (HT.out.below hb)⟩
 have H2 : Aside0 (∀ wx, Below w.heap.size w wx → Calls Tryz.prog 71 #[.agg C.toArray] wx fun e w' => e = .returned (.bool b2) ∧ Below wx.heap.size wx w') := ⟨fun wx hb => by rw [← hC, ← hb2]; exact holders_hand L g HM.out wx (HR.out.below hb)⟩
 have H3 : Aside0 (b1 = true → b2 = true → ∀ wx, Below w.heap.size w wx → Calls Tryz.prog 72 #[.agg C.toArray] wx fun e w' => e = .returned (.bool b3) ∧ Below wx.heap.size wx w') := ⟨fun q1 q2 wx hb => by rw [← hC, ← hb3]; exact known_any L g HM.out (HP.out (hb1.trans q1) (hb2.trans q2)) wx (HR.out.below hb)⟩
 rw [hC]
 obtain ⟨v0, v1, v2, v3, v4, v5, rfl⟩ : ∃ v0 v1 v2 v3 v4 v5, C = [v0, v1, v2, v3, v4, v5] := ⟨_, _, _, _, _, _, hC.symm⟩
 clear ht hR hT hb1 hb2 hb3 hok HP HM HO HR HT hC HCl
 cases b1
 ·go_enter Tryz.func28, Tryz.ntmps28
  go_wp2_with (go_at_call 70; refine (H1.out _ (below_alloc (Below.refl _ _) _)).mono ?_; rintro en w1 ⟨rfl, hb1⟩; have HB1 := Aside0.mk (below_step (below_alloc (Below.refl w.heap.size w) _) hb1); have HK1 := Aside0.mk (blk_below (heap_alloc_new w _) hb1); have hz0_1 : w1.cell? ⟨w.heap.size, 0, none⟩ = some v0 := (blk_cell HK1.out 0).trans rfl; have hz1_1 : w1.cell? ⟨w.heap.size, 1, none⟩ = some v1 := (blk_cell HK1.out 1).trans rfl; have hz2_1 : w1.cell? ⟨w.heap.size, 2, none⟩ = some v2 := (blk_cell HK1.out 2).trans rfl; have hz3_1 : w1.cell? ⟨w.heap.size, 3, none⟩ = some v3 := (blk_cell HK1.out 3).trans rfl; have hz4_1 : w1.cell? ⟨w.heap.size, 4, none⟩ = some v4 := (blk_cell HK1.out 4).trans rfl; have hz5_1 : w1.cell? ⟨w.heap.size, 5, none⟩ = some v5 := (blk_cell HK1.out 5).trans rfl; clear hb1)
  go_ret
  exact ⟨rfl, HB1.out⟩
 ·cases b2
  ·go_enter Tryz.func28, Tryz.ntmps28
   go_wp2_with (first | (go_at_call 70; refine (H1.out _ (below_alloc (Below.refl _ _) _)).mono ?_; rintro en w1 ⟨rfl, hb1⟩; have HB1 := Aside0.mk (below_step (below_alloc (Below.refl w.heap.size w) _) hb1); have HK1 := Aside0.mk (blk_below (heap_alloc_new w _) hb1); have hz0_1 : w1.cell? ⟨w.heap.size, 0, none⟩ = some v0 := (blk_cell HK1.out 0).trans rfl; have hz1_1 : w1.cell? ⟨w.heap.size, 1, none⟩ = some v1 := (blk_cell HK1.out 1).trans rfl; have hz2_1 : w1.cell? ⟨w.heap.size, 2, none⟩ = some v2 := (blk_cell HK1.out 2).trans rfl; have hz3_1 : w1.cell? ⟨w.heap.size, 3, none⟩ = some v3 := (blk_cell HK1.out 3).trans rfl; have hz4_1 : w1.cell? ⟨w.heap.size, 4, none⟩ = some v4 := (blk_cell HK1.out 4).trans rfl; have hz5_1 : w1.cell? ⟨w.heap.size, 5, none⟩ = some v5 := (blk_cell HK1.out 5).trans rfl; clear hb1) | (go_at_call 71; refine (H2.out _ HB1.out).mono ?_; rintro en w2 ⟨rfl, hb2⟩; have HB2 := Aside0.mk (below_step HB1.out hb2); have HK2 := Aside0.mk (blk_below HK1.out hb2); have hz0_2 : w2.cell? ⟨w.heap.size, 0, none⟩ = some v0 := (blk_cell HK2.out 0).trans rfl; have hz1_2 : w2.cell? ⟨w.heap.size, 1, none⟩ = some v1 := (blk_cell HK2.out 1).trans rfl; have hz2_2 : w2.cell? ⟨w.heap.size, 2, none⟩ = some v2 := (blk_cell HK2.out 2).trans rfl; have hz3_2 : w2.cell? ⟨w.heap.size, 3, none⟩ = some v3 := (blk_cell HK2.out 3).trans rfl; have hz4_2 : w2.cell? ⟨w.heap.size, 4, none⟩ = some v4 := (blk_cell HK2.out 4).trans rfl; have hz5_2 : w2.cell? ⟨w.heap.size, 5, none⟩ = some v5 := (blk_cell HK2.out 5).trans rfl; clear hb2))
   go_ret
   exact ⟨rfl, HB2.out⟩
  ·replace H3 := Aside0.mk (H3.out rfl rfl)
   cases b3
   ·go_enter Tryz.func28, Tryz.ntmps28
    go_wp2_with (first | (go_at_call 70; refine (H1.out _ (below_alloc (Below.refl _ _) _)).mono ?_; rintro en w1 ⟨rfl, hb1⟩; have HB1 := Aside0.mk (below_step (below_alloc (Below.refl w.heap.size w) _) hb1); have HK1 := Aside0.mk (blk_below (heap_alloc_new w _) hb1); have hz0_1 : w1.cell? ⟨w.heap.size, 0, none⟩ = some v0 := (blk_cell HK1.out 0).trans rfl; have hz1_1 : w1.cell? ⟨w.heap.size, 1, none⟩ = some v1 := (blk_cell HK1.out 1).trans rfl; have hz2_1 : w1.cell? ⟨w.heap.size, 2, none⟩ = some v2 := (blk_cell HK1.out 2).trans rfl; have hz3_1 : w1.cell? ⟨w.heap.size, 3, none⟩ = some v3 := (blk_cell HK1.out 3).trans rfl; have hz4_1 : w1.cell? ⟨w.heap.size, 4, none⟩ = some v4 := (blk_cell HK1.out 4).trans rfl; have hz5_1 : w1.cell? ⟨w.heap.size, 5, none⟩ = some v5 := (blk_cell HK1.out 5).trans rfl; clear hb1) | (go_at_call 71; refine (H2.out _ HB1.out).mono ?_; rintro en w2 ⟨rfl, hb2⟩; have HB2 := Aside0.mk (below_step HB1.out hb2); have HK2 := Aside0.mk (blk_below HK1.out hb2); have hz0_2 : w2.cell? ⟨w.heap.size, 0, none⟩ = some v0 := (blk_cell HK2.out 0).trans rfl; have hz1_2 : w2.cell? ⟨w.heap.size, 1, none⟩ = some v1 := (blk_cell HK2.out 1).trans rfl; have hz2_2 : w2.cell? ⟨w.heap.size, 2, none⟩ = some v2 := (blk_cell HK2.out 2).trans rfl; have hz3_2 : w2.cell? ⟨w.heap.size, 3, none⟩ = some v3 := (blk_cell HK2.out 3).trans rfl; have hz4_2 : w2.cell? ⟨w.heap.size, 4, none⟩ = some v4 := (blk_cell HK2.out 4).trans rfl; have hz5_2 : w2.cell? ⟨w.heap.size, 5, none⟩ = some v5 := (blk_cell HK2.out 5).trans rfl; clear hb2) | (go_at_call 72; refine (H3.out _ HB2.out).mono ?_; rintro en w3 ⟨rfl, hb3⟩; have HB3 := Aside0.mk (below_step HB2.out hb3); clear hb3))
    go_ret
    exact ⟨rfl, HB3.out⟩
   ·go_enter Tryz.func28, Tryz.ntmps28
    go_wp2_with (first | (go_at_call 70; refine (H1.out _ (below_alloc (Below.refl _ _) _)).mono ?_; rintro en w1 ⟨rfl, hb1⟩; have HB1 := Aside0.mk (below_step (below_alloc (Below.refl w.heap.size w) _) hb1); have HK1 := Aside0.mk (blk_below (heap_alloc_new w _) hb1); have hz0_1 : w1.cell? ⟨w.heap.size, 0, none⟩ = some v0 := (blk_cell HK1.out 0).trans rfl; have hz1_1 : w1.cell? ⟨w.heap.size, 1, none⟩ = some v1 := (blk_cell HK1.out 1).trans rfl; have hz2_1 : w1.cell? ⟨w.heap.size, 2, none⟩ = some v2 := (blk_cell HK1.out 2).trans rfl; have hz3_1 : w1.cell? ⟨w.heap.size, 3, none⟩ = some v3 := (blk_cell HK1.out 3).trans rfl; have hz4_1 : w1.cell? ⟨w.heap.size, 4, none⟩ = some v4 := (blk_cell HK1.out 4).trans rfl; have hz5_1 : w1.cell? ⟨w.heap.size, 5, none⟩ = some v5 := (blk_cell HK1.out 5).trans rfl; clear hb1) | (go_at_call 71; refine (H2.out _ HB1.out).mono ?_; rintro en w2 ⟨rfl, hb2⟩; have HB2 := Aside0.mk (below_step HB1.out hb2); have HK2 := Aside0.mk (blk_below HK1.out hb2); have hz0_2 : w2.cell? ⟨w.heap.size, 0, none⟩ = some v0 := (blk_cell HK2.out 0).trans rfl; have hz1_2 : w2.cell? ⟨w.heap.size, 1, none⟩ = some v1 := (blk_cell HK2.out 1).trans rfl; have hz2_2 : w2.cell? ⟨w.heap.size, 2, none⟩ = some v2 := (blk_cell HK2.out 2).trans rfl; have hz3_2 : w2.cell? ⟨w.heap.size, 3, none⟩ = some v3 := (blk_cell HK2.out 3).trans rfl; have hz4_2 : w2.cell? ⟨w.heap.size, 4, none⟩ = some v4 := (blk_cell HK2.out 4).trans rfl; have hz5_2 : w2.cell? ⟨w.heap.size, 5, none⟩ = some v5 := (blk_cell HK2.out 5).trans rfl; clear hb2) | (go_at_call 72; refine (H3.out _ HB2.out).mono ?_; rintro en w3 ⟨rfl, hb3⟩; have HB3 := Aside0.mk (below_step HB2.out hb3); clear hb3))
    go_ret
    exact ⟨rfl, HB3.out⟩
end Go.Proofs.YtihjjkoddphmiaaGreatDoor.img
