/-
  The walk of middenref16.slots.
-/
import Derived.Test.YtihjjkoddphmiaaGreatDoorNPImageApartx0
import Derived.Test.YtihjjkoddphmiaaGreatDoorNIm3
import Derived.Test.YtihjjkoddphmiaaGreatDoorNRefOb
import Derived.Deep.DeepCutAuto
namespace Go.Proofs.YtihjjkoddphmiaaGreatDoor.img
open Go.RowKit Go.Proofs.YtihjjkoddphmiaaGreatDoorW.PrintWords Go.Proofs.YtihjjkoddphmiaaGreatDoorW.PrintLast Go.Proofs.YtihjjkoddphmiaaGreatDoorW.PrintMore Go.Proofs.YtihjjkoddphmiaaGreatDoor.PImageApart
set_option linter.unusedVariables false
set_option linter.unusedSimpArgs false

/-- between: the numbers, quietly. -/
theorem between_any (A : Option Addr) (c : Nat) (l : List Int) (lo hi : Int) (w : World) (hl : l.length ≤ 1000000) (hr : Kd.C (Kd.int .i64) w A l.length l) (hc : l.length ≤ c) :
  Calls Tryz.prog 91 #[.slice A l.length c, .int .i64 lo, .int .i64 hi] w fun e w' => e = .returned (.bool (numsB hi lo l)) ∧ ∃ n, w' = w.drewN n := between_hand A c l lo hi w hl hr

def framesR (n : Int) : Int → List (List Int) → Bool
 | _, [] => true
 | s, f :: r => if f.length < 1 then false else if 4096 < s + f.length then false else if numsB n 0 f then framesR n (s + f.length) r else false
theorem framesB_big {n : Int} : ∀ (l : List (List Int)) (s : Int), 4096 < s → framesB n s l = false
 | [], s, h => by simp [framesB]; omega
 | f :: r, s, h => by
  rw [framesB]
  by_cases h1 : f.length < 1
  ·rw [if_pos h1]
  ·rw [if_neg h1, framesB_big r _ (by omega)]
   simp
theorem framesR_eq {n : Int} : ∀ (l : List (List Int)) (s : Int), s ≤ 4096 → framesR n s l = framesB n s l
 | [], s, h => by simp [framesR, framesB]; omega
 | f :: r, s, h => by
  rw [framesR, framesB]
  by_cases h1 : f.length < 1
  ·rw [if_pos h1, if_pos h1]
  ·rw [if_neg h1, if_neg h1]
   by_cases h2 : 4096 < s + f.length
   ·rw [if_pos h2, framesB_big r _ h2]
    simp
   ·rw [if_neg h2, framesR_eq r _ (by omega)]
def slotsOk (g : Gr) : Bool := if g.slots.length < 1 then false else if g.slots.length > 8 then false else if g.handles.length > 1024 then false else numsB g.objs.length (-1) g.handles && slotsB g.objs.length g.slots

set_option maxHeartbeats 8000000 in
set_option maxRecDepth 100000 in
theorem slots_any (L : Lay) (g : Gr) (hm : Mild g) (w : World) (hR : Rd w L g) :
  Calls Tryz.prog 54 #[.agg (gcells L g).toArray] w fun e w' => e = .returned (.bool (slotsOk g)) ∧ Below w.heap.size w w' := by
 obtain ⟨A0, A1, A2, A3, A4, k0, k1, k2, k3, k4⟩ := L
 obtain ⟨objs, slots, handles, registry, queue, next⟩ := g
 have HR := Aside0.mk hR
 have HM := Aside0.mk hm
 have hl0 : objs.length ≤ 1000000 := hm.objs
 have hl1 : slots.length ≤ 1000000 := hm.slots
 have hl2 : handles.length ≤ 1000000 := hm.handles
 unfold slotsOk
 simp only
 obtain ⟨W, hW⟩ : ∃ W, W = w.alloc (.cells #[.slice A0 objs.length k0, .slice A1 slots.length k1, .slice A2 handles.length k2, .slice A3 registry.length k3, .slice A4 queue.length k4, .int .u64 next] 44) := ⟨_, rfl⟩
 have HB : Aside0 (Below w.heap.size w W) := ⟨by rw [hW]; exact below_alloc (Below.refl _ _) _⟩
 have HK : Aside0 (W.heap[w.heap.size]? = some (.cells #[.slice A0 objs.length k0, .slice A1 slots.length k1, .slice A2 handles.length k2, .slice A3 registry.length k3, .slice A4 queue.length k4, .int .u64 next] 44 (0, 0))) := ⟨by rw [hW]; exact heap_alloc_new w _⟩
 have HW := Aside0.mk hW
 clear hR hm hW
 by_cases s1 : slots.length < 1
 ·rw [if_pos s1]
  go_enter Tryz.func54, Tryz.ntmps54
  go_wp2
  go_ret
  exact ⟨rfl, below_alloc (Below.refl _ _) _⟩
 by_cases s2 : slots.length > 8
 ·rw [if_neg s1, if_pos s2]
  go_enter Tryz.func54, Tryz.ntmps54
  go_wp2
  go_ret
  exact ⟨rfl, below_alloc (Below.refl _ _) _⟩
 by_cases s3 : handles.length > 1024
 ·rw [if_neg s1, if_neg s2, if_pos s3]
  go_enter Tryz.func54, Tryz.ntmps54
  go_wp2
  go_ret
  exact ⟨rfl, below_alloc (Below.refl _ _) _⟩
 rw [if_neg s1, if_neg s2, if_neg s3]
 obtain ⟨bh, hbh⟩ : ∃ bh, numsB objs.length (-1) handles = bh := ⟨_, rfl⟩
 have HBT := Aside0.mk (between_any A2 k2 handles (-1) objs.length W hl2 (Kd.C_below HR.out.r2 HB.out) HR.out.h2)
 rw [hbh] at HBT ⊢
 clear hbh
 obtain ⟨res, hres⟩ : ∃ res, res = (bh && slotsB objs.length slots) := ⟨_, rfl⟩
 rw [← hres]
 have c0 : W.cell? ⟨w.heap.size, 0, none⟩ = some (.slice A0 objs.length k0) := (blk_cell HK.out 0).trans rfl
 have c1 : W.cell? ⟨w.heap.size, 1, none⟩ = some (.slice A1 slots.length k1) := (blk_cell HK.out 1).trans rfl
 have c2 : W.cell? ⟨w.heap.size, 2, none⟩ = some (.slice A2 handles.length k2) := (blk_cell HK.out 2).trans rfl
 have HRES := Aside0.mk hres
 clear hres
 have t1 : decide ((slots.length : Int) < 1) = false := by simp; omega
 have t2 : decide (8 < (slots.length : Int)) = false := by simp; omega
 have t3 : decide (1024 < (handles.length : Int)) = false := by simp; omega
 go_enter Tryz.func54, Tryz.ntmps54
 go_upto_region 1 with (fail)
 rw [← HW.out]
 go_wp2_with (fail)
 refine HBT.out.mono ?_
 rintro en w1 ⟨rfl, nd, rfl⟩
 cases bh with
 | false =>
  obtain rfl : res = false := by simpa using HRES.out
  go_wp2_with (fail)
  go_ret
  exact ⟨rfl, pw_below_drewN HB.out _⟩
 | true =>
  replace HRES : Aside0 (res = slotsB objs.length slots) := ⟨by simpa using HRES.out⟩
  have HBX : Aside0 (Below W.heap.size W (W.drewN nd)) := ⟨pw_below_drewN (Below.refl _ _) _⟩
  generalize W.drewN nd = W1 at HBX ⊢
  go_wp2_with (fail)
  go_loopw [3] (fun i wr => ∃ t : Nat, t ≤ slots.length ∧ i = .int .i64 t ∧ Aside0 (res = slotsB objs.length (slots.drop t)) ∧ Aside0 (Below W.heap.size W wr)) (fun i _ => slots.length - (intOf i).toNat)
  case atStart => exact ⟨0, Nat.zero_le _, rfl, HRES, HBX⟩
  case round =>
   clear HRES HBX c0 c1 c2
   obtain ⟨t, ht, rfl, HRES, HBX⟩ := hrel
   have HKX := Aside0.mk (blk_below HK.out HBX.out)
   have c0 : wr.cell? ⟨w.heap.size, 0, none⟩ = some (.slice A0 objs.length k0) := (blk_cell HKX.out 0).trans rfl
   have c1 : wr.cell? ⟨w.heap.size, 1, none⟩ = some (.slice A1 slots.length k1) := (blk_cell HKX.out 1).trans rfl
   by_cases hlt : t < slots.length
   ·obtain ⟨ad1, A5, k5, rfl, h5, hl5, hC5⟩ := at_L5 (Kd.C_below HR.out.r1 (below_step HB.out HBX.out)) (t : Int) (by omega) (by show (t : Int) < (slots.length : Int); omega)
    have hrd : rd_L5 slots (t : Int) = slots.getD t [] := by simp [rd_L5]
    rw [hrd] at h5 hl5 hC5
    have HD : Aside0 (slots.drop t = slots.getD t [] :: slots.drop (t + 1)) := ⟨drop_get slots t [] hlt⟩
    have hmem : slots.getD t [] ∈ slots := get_mem hlt
    have HMF := Aside0.mk (And.intro (HM.out.frames _ hmem) (HM.out.slot _ hmem))
    clear hrd hmem
    generalize slots.getD t [] = fr at *
    have hlf : fr.length ≤ 1000000 := HMF.out.1
    have HC5 := Aside0.mk hC5
    have HL5 := Aside0.mk hl5
    have h5' : wr.cell? (ad1.add t) = some (.slice A5 fr.length k5) := by simpa using h5
    clear hC5 hl5 h5
    rw [HD.out, slotsB, ← framesR_eq fr 0 (by omega)] at HRES
    have HRS : Aside0 (res = (framesR objs.length ((0 : Nat) : Int) (fr.drop 0) && slotsB objs.length (slots.drop (t + 1)))) := HRES
    clear HRES HD
    go_wp2_with (fail)
    have HX2 := Aside0.mk (Below.refl wr.heap.size wr)
    go_loopw [4, 5] (fun s i w2 => ∃ j sm : Nat, j ≤ fr.length ∧ sm ≤ 4096 ∧ s = .int .i64 sm ∧ i = .int .i64 j ∧ Aside0 (res = (framesR objs.length (sm : Int) (fr.drop j) && slotsB objs.length (slots.drop (t + 1)))) ∧ Aside0 (Below wr.heap.size wr w2)) (fun _ i _ => fr.length - (intOf i).toNat)
    case atStart => exact ⟨0, 0, by omega, by omega, rfl, rfl, HRS, HX2⟩
    case round =>
     clear HRS HX2
     obtain ⟨j, sm, hj, hsm, rfl, rfl, HRS, HX2⟩ := hrel
     have HB2 := Aside0.mk (below_step HB.out (below_step HBX.out HX2.out))
     have HBX2 := Aside0.mk (below_step HBX.out HX2.out)
     replace c0 := pw_cell_below HX2.out c0
     replace c1 := pw_cell_below HX2.out c1
     replace h5' := pw_cell_below HX2.out h5'
     by_cases hlj : j < fr.length
     ·obtain ⟨ad2, A6, k6, rfl, h6, hl6, hC6⟩ := at_L2 (Kd.C_below HC5.out HX2.out) (j : Int) (by omega) (by show (j : Int) < (fr.length : Int); omega)
      have hrd : rd_L2 fr (j : Int) = fr.getD j [] := by simp [rd_L2]
      rw [hrd] at h6 hl6 hC6
      have HD : Aside0 (fr.drop j = fr.getD j [] :: fr.drop (j + 1)) := ⟨drop_get fr j [] hlj⟩
      have hmem : fr.getD j [] ∈ fr := get_mem hlj
      have hlx : (fr.getD j []).length ≤ 1000000 := HMF.out.2 _ hmem
      clear hrd hmem
      generalize fr.getD j [] = f at *
      have h6' := h6
      simp only [Int.toNat_natCast] at h6'
      rw [HD.out, framesR] at HRS
      clear h6 HD
      have hw : IntKind.i64.wrap ((sm : Int) + (f.length : Int)) = (sm : Int) + f.length := by rw [IntKind.wrap_i64]; omega
      by_cases q1 : f.length < 1
      ·rw [if_pos q1] at HRS
       obtain rfl : res = false := by simpa using HRS.out
       have q1' : decide ((f.length : Int) < 1) = true := by simp; omega
       go_wp2_with (fail)
       go_quiet (fail)
       go_wp2_with (fail)
       go_ret
       exact ⟨rfl, pw_below_drewN HB2.out _⟩
      by_cases q2 : 4096 < (sm : Int) + f.length
      ·rw [if_neg q1, if_pos q2] at HRS
       obtain rfl : res = false := by simpa using HRS.out
       have q1' : decide ((f.length : Int) < 1) = false := by simp; omega
       have q2' : decide (4096 < (sm : Int) + (f.length : Int)) = true := by simp; omega
       go_wp2_with (fail)
       go_quiet (fail)
       go_wp2_with (fail)
       go_ret
       exact ⟨rfl, pw_below_drewN HB2.out _⟩
      rw [if_neg q1, if_neg q2] at HRS
      have q1' : decide ((f.length : Int) < 1) = false := by simp; omega
      have q2' : decide (4096 < (sm : Int) + (f.length : Int)) = false := by simp; omega
      obtain ⟨bn, hbn⟩ : ∃ bn, numsB objs.length 0 f = bn := ⟨_, rfl⟩
      have HBN := Aside0.mk (fun n => between_any A6 k6 f 0 objs.length (wr.drewN n) hlx (Kd.C_drewN hC6 n) hl6)
      rw [hbn] at HRS
      simp only [hbn] at HBN
      clear hbn hC6 hl6
      cases bn with
      | false =>
       obtain rfl : res = false := by simpa using HRS.out
       go_wp2_with (fail)
       go_quiet ((go_at_call 91; refine (HBN.out _).mono ?_; rintro e w' ⟨rfl, nd2, rfl⟩; exact ⟨rfl, _, World.drewN_drewN _ _ _⟩))
       go_wp2_with (fail)
       go_ret
       exact ⟨rfl, pw_below_drewN HB2.out _⟩
      | true =>
       rw [if_pos rfl] at HRS
       have HRS2 : Aside0 (res = (framesR objs.length ((sm + f.length : Nat) : Int) (fr.drop (j + 1)) && slotsB objs.length (slots.drop (t + 1)))) := ⟨by rw [HRS.out]; congr 2⟩
       go_wp2_with (fail)
       go_quiet ((go_at_call 91; refine (HBN.out _).mono ?_; rintro e w' ⟨rfl, nd2, rfl⟩; exact ⟨rfl, _, World.drewN_drewN _ _ _⟩))
       go_wp2_with (fail)
       go_roundw
       case rel => exact ⟨j + 1, sm + f.length, by omega, by omega, by go_num, by go_num, HRS2, ⟨pw_below_drewN HX2.out _⟩⟩
       case measure => simp [intOf]; omega
     ·have : fr.drop j = [] := List.drop_eq_nil_of_le (by omega)
      rw [this] at HRS
      have HRES : Aside0 (res = slotsB objs.length (slots.drop (t + 1))) := ⟨by simpa [framesR] using HRS.out⟩
      go_wp2_with (fail)
      go_roundw
      case rel => exact ⟨t + 1, by omega, by go_num, HRES, HBX2⟩
      case measure => simp [intOf]; omega
   ·obtain rfl : res = true := by
     have : slots.drop t = [] := List.drop_eq_nil_of_le (by omega)
     rw [this] at HRES
     exact HRES.out
    go_wp2_with (fail)
    go_ret
    exact ⟨rfl, below_step HB.out HBX.out⟩
end Go.Proofs.YtihjjkoddphmiaaGreatDoor.img
