/-
  The walks of middenref16.between and objects by hand.
-/
import Derived.Test.YtihjjkoddphmiaaGreatDoorNIm3
import Derived.Test.YtihjjkoddphmiaaGreatDoorNSmG
namespace Go.Proofs.YtihjjkoddphmiaaGreatDoor.img
open Go.RowKit Go.Proofs.YtihjjkoddphmiaaGreatDoorW.PrintWords Go.Proofs.YtihjjkoddphmiaaGreatDoorW.PrintLast Go.Proofs.YtihjjkoddphmiaaGreatDoorW.PrintMore Go.Proofs.YtihjjkoddphmiaaGreatDoor.PImageApart
set_option linter.unusedVariables false
set_option linter.unusedSimpArgs false

set_option maxHeartbeats 4000000 in
set_option maxRecDepth 100000 in
theorem rcheck_hand (k p r s : Int) (hp : 0 ≤ p) (hr : 0 ≤ r) (w : World) :
  Calls Tryz.prog 121 #[headV k p r s] w fun e w' => e = .returned (.int .i64 (chk k p r s)) ∧ Below w.heap.size w w' := by
 obtain ⟨c, hc⟩ : ∃ c, chk k p r s = c := ⟨_, rfl⟩
 have HC : Aside0 ((if k < 1 ∨ 5 ≤ k ∨ p < need k then 20 else if 4095 < p then 21 else if 65535 < r then 22 else if s < 0 ∨ 255 < s then 24 else 0) = c) := ⟨hc⟩
 rw [hc]
 clear hc
 have hb := below_alloc (Below.refl w.heap.size w) (.cells #[.int .u64 0, .int .i64 k, .int .i64 p, .int .i64 r, .int .i64 0, .int .i64 s, .bool false] 144)
 have HB := Aside0.mk hb
 clear hb
 have e0 : decide (p < 0) = false := decide_eq_false (by omega)
 have e1 : decide (r < 0) = false := decide_eq_false (by omega)
 by_cases a1 : k < 1
 ·have d1 : decide (k < 1) = true := decide_eq_true a1
  obtain rfl : c = 20 := by rw [← HC.out, if_pos (.inl a1)]
  go_enter Tryz.func121, Tryz.ntmps121
  go_wp2
  go_ret
  exact ⟨rfl, HB.out⟩
 have d1 : decide (k < 1) = false := decide_eq_false a1
 by_cases a2 : 4 < k
 ·have d2 : decide (4 < k) = true := decide_eq_true a2
  obtain rfl : c = 20 := by rw [← HC.out, if_pos (.inr (.inl (by omega)))]
  go_enter Tryz.func121, Tryz.ntmps121
  go_wp2
  go_ret
  exact ⟨rfl, HB.out⟩
 have d2 : decide (4 < k) = false := decide_eq_false a2
 by_cases a3 : k = 2
 ·subst a3
  by_cases a4 : p < 1
  ·have d4 : decide (p < 1) = true := decide_eq_true a4
   obtain rfl : c = 20 := by rw [← HC.out, if_pos (.inr (.inr (by unfold need; rw [if_pos rfl]; omega)))]
   go_enter Tryz.func121, Tryz.ntmps121
   go_wp2
   go_ret
   exact ⟨rfl, HB.out⟩
  have d4 : decide (p < 1) = false := decide_eq_false a4
  have hk : ¬ ((2 : Int) < 1 ∨ (5 : Int) ≤ 2 ∨ p < need 2) := by unfold need; rw [if_pos rfl]; omega
  by_cases b1 : 4095 < p
  ·have f1 : decide (4095 < p) = true := decide_eq_true b1
   obtain rfl : c = 21 := by rw [← HC.out, if_neg hk, if_pos b1]
   go_enter Tryz.func121, Tryz.ntmps121
   go_wp2
   go_ret
   exact ⟨rfl, HB.out⟩
  have f1 : decide (4095 < p) = false := decide_eq_false b1
  by_cases b2 : 65535 < r
  ·have f2 : decide (65535 < r) = true := decide_eq_true b2
   obtain rfl : c = 22 := by rw [← HC.out, if_neg hk, if_neg b1, if_pos b2]
   go_enter Tryz.func121, Tryz.ntmps121
   go_wp2
   go_ret
   exact ⟨rfl, HB.out⟩
  have f2 : decide (65535 < r) = false := decide_eq_false b2
  by_cases b3 : s < 0
  ·have f3 : decide (s < 0) = true := decide_eq_true b3
   obtain rfl : c = 24 := by rw [← HC.out, if_neg hk, if_neg b1, if_neg b2, if_pos (.inl b3)]
   go_enter Tryz.func121, Tryz.ntmps121
   go_wp2
   go_ret
   exact ⟨rfl, HB.out⟩
  have f3 : decide (s < 0) = false := decide_eq_false b3
  by_cases b4 : 255 < s
  ·have f4 : decide (255 < s) = true := decide_eq_true b4
   obtain rfl : c = 24 := by rw [← HC.out, if_neg hk, if_neg b1, if_neg b2, if_pos (.inr b4)]
   go_enter Tryz.func121, Tryz.ntmps121
   go_wp2
   go_ret
   exact ⟨rfl, HB.out⟩
  have f4 : decide (255 < s) = false := decide_eq_false b4
  obtain rfl : c = 0 := by rw [← HC.out, if_neg hk, if_neg b1, if_neg b2, if_neg (by omega)]
  go_enter Tryz.func121, Tryz.ntmps121
  go_wp2
  go_ret
  exact ⟨rfl, HB.out⟩
 have d3 : (k == 2) = false := beq_eq_false_iff_ne.2 a3
 by_cases a5 : k = 3
 ·subst a5
  by_cases a6 : p < 2
  ·have d6 : decide (p < 2) = true := decide_eq_true a6
   obtain rfl : c = 20 := by rw [← HC.out, if_pos (.inr (.inr (by unfold need; rw [if_neg (by decide), if_pos rfl]; omega)))]
   go_enter Tryz.func121, Tryz.ntmps121
   go_wp2
   go_ret
   exact ⟨rfl, HB.out⟩
  have d6 : decide (p < 2) = false := decide_eq_false a6
  have hk : ¬ ((3 : Int) < 1 ∨ (5 : Int) ≤ 3 ∨ p < need 3) := by unfold need; rw [if_neg (by decide), if_pos rfl]; omega
  by_cases b1 : 4095 < p
  ·have f1 : decide (4095 < p) = true := decide_eq_true b1
   obtain rfl : c = 21 := by rw [← HC.out, if_neg hk, if_pos b1]
   go_enter Tryz.func121, Tryz.ntmps121
   go_wp2
   go_ret
   exact ⟨rfl, HB.out⟩
  have f1 : decide (4095 < p) = false := decide_eq_false b1
  by_cases b2 : 65535 < r
  ·have f2 : decide (65535 < r) = true := decide_eq_true b2
   obtain rfl : c = 22 := by rw [← HC.out, if_neg hk, if_neg b1, if_pos b2]
   go_enter Tryz.func121, Tryz.ntmps121
   go_wp2
   go_ret
   exact ⟨rfl, HB.out⟩
  have f2 : decide (65535 < r) = false := decide_eq_false b2
  by_cases b3 : s < 0
  ·have f3 : decide (s < 0) = true := decide_eq_true b3
   obtain rfl : c = 24 := by rw [← HC.out, if_neg hk, if_neg b1, if_neg b2, if_pos (.inl b3)]
   go_enter Tryz.func121, Tryz.ntmps121
   go_wp2
   go_ret
   exact ⟨rfl, HB.out⟩
  have f3 : decide (s < 0) = false := decide_eq_false b3
  by_cases b4 : 255 < s
  ·have f4 : decide (255 < s) = true := decide_eq_true b4
   obtain rfl : c = 24 := by rw [← HC.out, if_neg hk, if_neg b1, if_neg b2, if_pos (.inr b4)]
   go_enter Tryz.func121, Tryz.ntmps121
   go_wp2
   go_ret
   exact ⟨rfl, HB.out⟩
  have f4 : decide (255 < s) = false := decide_eq_false b4
  obtain rfl : c = 0 := by rw [← HC.out, if_neg hk, if_neg b1, if_neg b2, if_neg (by omega)]
  go_enter Tryz.func121, Tryz.ntmps121
  go_wp2
  go_ret
  exact ⟨rfl, HB.out⟩
 have d5 : (k == 3) = false := beq_eq_false_iff_ne.2 a5
 have hk : ¬ (k < 1 ∨ 5 ≤ k ∨ p < need k) := by unfold need; rw [if_neg a3, if_neg a5]; omega
 by_cases b1 : 4095 < p
 ·have f1 : decide (4095 < p) = true := decide_eq_true b1
  obtain rfl : c = 21 := by rw [← HC.out, if_neg hk, if_pos b1]
  go_enter Tryz.func121, Tryz.ntmps121
  go_wp2
  go_ret
  exact ⟨rfl, HB.out⟩
 have f1 : decide (4095 < p) = false := decide_eq_false b1
 by_cases b2 : 65535 < r
 ·have f2 : decide (65535 < r) = true := decide_eq_true b2
  obtain rfl : c = 22 := by rw [← HC.out, if_neg hk, if_neg b1, if_pos b2]
  go_enter Tryz.func121, Tryz.ntmps121
  go_wp2
  go_ret
  exact ⟨rfl, HB.out⟩
 have f2 : decide (65535 < r) = false := decide_eq_false b2
 by_cases b3 : s < 0
 ·have f3 : decide (s < 0) = true := decide_eq_true b3
  obtain rfl : c = 24 := by rw [← HC.out, if_neg hk, if_neg b1, if_neg b2, if_pos (.inl b3)]
  go_enter Tryz.func121, Tryz.ntmps121
  go_wp2
  go_ret
  exact ⟨rfl, HB.out⟩
 have f3 : decide (s < 0) = false := decide_eq_false b3
 by_cases b4 : 255 < s
 ·have f4 : decide (255 < s) = true := decide_eq_true b4
  obtain rfl : c = 24 := by rw [← HC.out, if_neg hk, if_neg b1, if_neg b2, if_pos (.inr b4)]
  go_enter Tryz.func121, Tryz.ntmps121
  go_wp2
  go_ret
  exact ⟨rfl, HB.out⟩
 have f4 : decide (255 < s) = false := decide_eq_false b4
 obtain rfl : c = 0 := by rw [← HC.out, if_neg hk, if_neg b1, if_neg b2, if_neg (by omega)]
 go_enter Tryz.func121, Tryz.ntmps121
 go_wp2
 go_ret
 exact ⟨rfl, HB.out⟩

set_option maxHeartbeats 4000000 in
set_option maxRecDepth 100000 in
theorem rpack_hand (k p r s : Int) (hp : 0 ≤ p) (hr : 0 ≤ r) (w : World) :
  Calls Tryz.prog 90 #[headV k p r s] w fun e w' => ∃ v : Int, e = .returned (.tuple #[.int .u64 v, .int .i64 (chk k p r s)]) ∧ Below w.heap.size w w' := by
 have HCK := Aside0.mk (rcheck_hand k p r s hp hr (w.alloc (.cells #[.int .u64 0, .int .i64 k, .int .i64 p, .int .i64 r, .int .i64 0, .int .i64 s, .bool false] 144)))
 have HB := Aside0.mk (below_alloc (Below.refl w.heap.size w) (.cells #[.int .u64 0, .int .i64 k, .int .i64 p, .int .i64 r, .int .i64 0, .int .i64 s, .bool false] 144))
 have HK := Aside0.mk (heap_alloc_new w (.cells #[.int .u64 0, .int .i64 k, .int .i64 p, .int .i64 r, .int .i64 0, .int .i64 s, .bool false] 144))
 generalize chk k p r s = c at HCK ⊢
 go_enter Tryz.func90, Tryz.ntmps90
 go_wp2_with (fail)
 refine HCK.out.mono ?_
 rintro en w1 ⟨rfl, hb1⟩
 have HB1 := Aside0.mk (below_step HB.out hb1)
 have hk := blk_below HK.out hb1
 have c1 := (blk_cell hk 1).trans (show _ = some (Value.int .i64 k) from rfl)
 have c2 := (blk_cell hk 2).trans (show _ = some (Value.int .i64 p) from rfl)
 have c3 := (blk_cell hk 3).trans (show _ = some (Value.int .i64 r) from rfl)
 have c4 := (blk_cell hk 4).trans (show _ = some (Value.int .i64 0) from rfl)
 have c5 := (blk_cell hk 5).trans (show _ = some (Value.int .i64 s) from rfl)
 have c6 := (blk_cell hk 6).trans (show _ = some (Value.bool false) from rfl)
 clear hk hb1 HK HCK HB
 by_cases hc : c = 0
 ·subst hc
  go_wp2_with (fail)
  go_ret2
  exact ⟨_, rfl, HB1.out⟩
 ·go_wp2_with (fail)
  go_ret2
  exact ⟨_, rfl, HB1.out⟩
end Go.Proofs.YtihjjkoddphmiaaGreatDoor.img
namespace Go.Proofs.YtihjjkoddphmiaaGreatDoor.img
open Go.RowKit Go.Proofs.YtihjjkoddphmiaaGreatDoorW.PrintWords Go.Proofs.YtihjjkoddphmiaaGreatDoorW.PrintLast Go.Proofs.YtihjjkoddphmiaaGreatDoorW.PrintMore Go.Proofs.YtihjjkoddphmiaaGreatDoor.PImageApart
set_option linter.unusedVariables false
set_option linter.unusedSimpArgs false

set_option maxHeartbeats 4000000 in
set_option maxRecDepth 100000 in
theorem between_hand (A : Option Addr) (c : Nat) (l : List Int) (lo hi : Int) (w : World) (hl : l.length ≤ 1000000) (hr : Kd.C (Kd.int .i64) w A l.length l) :
  Calls Tryz.prog 91 #[.slice A l.length c, .int .i64 lo, .int .i64 hi] w fun e w' => e = .returned (.bool (numsB hi lo l)) ∧ ∃ n, w' = w.drewN n := by
 obtain ⟨res, hres⟩ : ∃ res, res = numsB hi lo (l.drop 0) := ⟨_, rfl⟩
 rw [List.drop_zero] at hres
 rw [← hres]
 have HRS : Aside0 (res = numsB hi lo (l.drop 0)) := ⟨hres⟩
 clear hres
 have HC := Aside0.mk hr
 clear hr
 go_enter Tryz.func91, Tryz.ntmps91
 go_wp2_with (fail)
 go_loopw [7] (fun i wr => ∃ t : Nat, t ≤ l.length ∧ i = .int .i64 t ∧ Aside0 (res = numsB hi lo (l.drop t)) ∧ Aside0 (∃ n, wr = w.drewN n)) (fun i _ => l.length - (intOf i).toNat)
 case atStart => exact ⟨0, Nat.zero_le _, rfl, HRS, ⟨0, rfl⟩⟩
 case round =>
  clear HRS
  obtain ⟨t, ht, rfl, HRS, HX⟩ := hrel
  by_cases hlt : t < l.length
  ·have hC : Kd.C (Kd.int .i64) wr A l.length l := by
    obtain ⟨n, rfl⟩ := HX.out
    exact Kd.C_drewN HC.out n
   obtain ⟨a, rfl, q⟩ := num_at hC hlt
   have HD : Aside0 (l.drop t = l.getD t 0 :: l.drop (t + 1)) := ⟨drop_get l t 0 hlt⟩
   generalize l.getD t 0 = x at q HD
   have p1 : (t : Int) < (l.length : Int) := by omega
   have HN : Aside0 (res = ((decide (lo ≤ x) && decide (x ≤ hi)) && numsB hi lo (l.drop (t + 1)))) := ⟨by rw [HRS.out, HD.out]; rfl⟩
   clear HD HRS hC
   by_cases b1 : x < lo
   ·obtain rfl : res = false := by rw [HN.out, decide_eq_false (show ¬ lo ≤ x by omega)]; rfl
    have d1 : decide (x < lo) = true := decide_eq_true b1
    go_wp2_with (fail)
    go_ret
    exact ⟨rfl, HX.out⟩
   have d1 : decide (x < lo) = false := decide_eq_false b1
   by_cases b2 : hi < x
   ·obtain rfl : res = false := by rw [HN.out, decide_eq_false (show ¬ x ≤ hi by omega), Bool.and_false]; rfl
    have d2 : decide (hi < x) = true := decide_eq_true b2
    go_wp2_with (fail)
    go_ret
    exact ⟨rfl, HX.out⟩
   have d2 : decide (hi < x) = false := decide_eq_false b2
   have HS : Aside0 (res = numsB hi lo (l.drop (t + 1))) := ⟨by rw [HN.out, decide_eq_true (show lo ≤ x by omega), decide_eq_true (show x ≤ hi by omega)]; rfl⟩
   clear HN
   go_wp2_with (fail)
   go_roundw
   case rel => exact ⟨t + 1, by omega, by go_num, HS, HX⟩
   case measure => simp [intOf]; omega
  ·obtain rfl : res = true := by
    have : l.drop t = [] := List.drop_eq_nil_of_le (by omega)
    rw [this] at HRS
    exact HRS.out
   go_wp2_with (fail)
   go_ret
   exact ⟨rfl, HX.out⟩

set_option maxHeartbeats 8000000 in
set_option maxRecDepth 100000 in
theorem robjects_hand (L : Lay) (g : Gr) (ht : Tame g) (w : World) (hR : Rd w L g) :
  Calls Tryz.prog 53 #[.agg (gcells L g).toArray] w fun e w' => e = .returned (.bool (objsB g)) ∧ Below w.heap.size w w' := by
 obtain ⟨A0, A1, A2, A3, A4, k0, k1, k2, k3, k4⟩ := L
 obtain ⟨objs, slots, handles, registry, queue, next⟩ := g
 have HR := Aside0.mk hR
 have HT := Aside0.mk ht
 have hl0 : objs.length ≤ 1000000 := ht.mild.objs
 unfold objsB
 simp only
 have HB := Aside0.mk (below_alloc (Below.refl w.heap.size w) (.cells #[.slice A0 objs.length k0, .slice A1 slots.length k1, .slice A2 handles.length k2, .slice A3 registry.length k3, .slice A4 queue.length k4, .int .u64 next] 44))
 have HK := Aside0.mk (heap_alloc_new w (.cells #[.slice A0 objs.length k0, .slice A1 slots.length k1, .slice A2 handles.length k2, .slice A3 registry.length k3, .slice A4 queue.length k4, .int .u64 next] 44))
 clear hR ht
 by_cases s1 : next < 1
 ·rw [if_pos s1]
  have d1 : decide (next < 1) = true := decide_eq_true s1
  go_enter Tryz.func53, Tryz.ntmps53
  go_wp2_with (fail)
  go_ret
  exact ⟨rfl, HB.out⟩
 have d1 : decide (next < 1) = false := decide_eq_false s1
 rw [if_neg s1]
 by_cases s2 : 4611686018427387905 < next
 ·rw [if_pos s2]
  have d2 : decide (4611686018427387905 < next) = true := decide_eq_true s2
  go_enter Tryz.func53, Tryz.ntmps53
  go_wp2_with (fail)
  go_ret
  exact ⟨rfl, HB.out⟩
 have d2 : decide (4611686018427387905 < next) = false := decide_eq_false s2
 rw [if_neg s2]
 obtain ⟨res, hres⟩ : ∃ res, res = objsFrom objs.length next 0 (objs.drop 0) := ⟨_, rfl⟩
 rw [List.drop_zero] at hres
 rw [← hres]
 have HRS : Aside0 (res = objsFrom objs.length next 0 (objs.drop 0)) := ⟨hres⟩
 clear hres
 obtain ⟨W, hW⟩ : ∃ W, W = w.alloc (.cells #[.slice A0 objs.length k0, .slice A1 slots.length k1, .slice A2 handles.length k2, .slice A3 registry.length k3, .slice A4 queue.length k4, .int .u64 next] 44) := ⟨_, rfl⟩
 rw [← hW] at HB HK
 have HW := Aside0.mk hW
 have c5 : W.cell? ⟨w.heap.size, 5, none⟩ = some (.int .u64 next) := (blk_cell HK.out 5).trans rfl
 have HX := Aside0.mk (Below.refl W.heap.size W)
 clear hW
 go_enter Tryz.func53, Tryz.ntmps53
 go_upto_region 1 with (fail)
 rw [← HW.out]
 go_wp2_with (fail)
 go_loopw [3, 4] (fun a i wr => ∃ (t : Nat) (last : Int), t ≤ objs.length ∧ a = .int .u64 last ∧ i = .int .i64 t ∧ Aside0 (res = objsFrom objs.length next last (objs.drop t)) ∧ Aside0 (Below W.heap.size W wr)) (fun _ i _ => objs.length - (intOf i).toNat)
 case atStart => exact ⟨0, 0, Nat.zero_le _, rfl, rfl, HRS, HX⟩
 case round =>
  clear HRS HX c5
  obtain ⟨t, last, ht, rfl, rfl, HRS, HX⟩ := hrel
  have HKX := Aside0.mk (blk_below HK.out HX.out)
  have HBX := Aside0.mk (below_step HB.out HX.out)
  have c0 : wr.cell? ⟨w.heap.size, 0, none⟩ = some (.slice A0 objs.length k0) := (blk_cell HKX.out 0).trans rfl
  by_cases hlt : t < objs.length
  ·have p1 : (t : Int) < (objs.length : Int) := by omega
   obtain ⟨ad, A5, k5, A6, k6, rfl, o0, o1, o2, o3, o4, hC3, hC4⟩ := obj_at (HR.out.below HBX.out).r0 hlt
   have HD : Aside0 (objs.drop t = objs.getD t z66 :: objs.drop (t + 1)) := ⟨drop_get objs t z66 hlt⟩
   have hmem : objs.getD t z66 ∈ objs := get_mem hlt
   have hlo := HT.out.objs _ hmem
   clear hmem
   generalize objs.getD t z66 = o at *
   obtain ⟨f0, f1, f2, f3, f4⟩ := o
   simp only at o0 o1 o2 o3 o4 hC3 hC4 hlo
   rw [HD.out, objsFrom] at HRS
   simp only at HRS
   have HQ := Aside0.mk (below_alloc (Below.refl wr.heap.size wr) (.cells #[.int .u64 f0, .int .i64 f1, .int .i64 f2, .slice A5 f3.length k5, .slice A6 f4.length k6] 66))
   have HN := Aside0.mk (heap_alloc_new wr (.cells #[.int .u64 f0, .int .i64 f1, .int .i64 f2, .slice A5 f3.length k5, .slice A6 f4.length k6] 66))
   have HP := Aside0.mk (rpack_hand f1 f3.length f4.length f2 (by omega) (by omega) (wr.alloc (.cells #[.int .u64 f0, .int .i64 f1, .int .i64 f2, .slice A5 f3.length k5, .slice A6 f4.length k6] 66)))
   have hlf := hlo.1
   have HC3 := Aside0.mk hC3
   generalize chk f1 f3.length f4.length f2 = ck at HRS HP
   clear hC3 hC4 hlo HD
   go_wp2_with (fail)
   refine HP.out.mono ?_
   rintro en w3 ⟨pv, rfl, hb3⟩
   have HQ3 := Aside0.mk (below_step HQ.out hb3)
   have HBF := Aside0.mk (below_step HBX.out HQ3.out)
   have hn := blk_below HN.out hb3
   have hkf := blk_below HKX.out HQ3.out
   have e0 := (blk_cell hn 0).trans (show _ = some (Value.int .u64 f0) from rfl)
   have e3 := (blk_cell hn 3).trans (show _ = some (Value.slice A5 f3.length k5) from rfl)
   have g0 := (blk_cell hkf 0).trans (show _ = some (Value.slice (some ad) objs.length k0) from rfl)
   have g5 := (blk_cell hkf 5).trans (show _ = some (Value.int .u64 next) from rfl)
   clear HQ HN HP hb3 hn hkf o0 o1 o2 o3 o4 c0
   by_cases q1 : f0 ≤ last
   ·have b1 : decide (f0 ≤ last) = true := decide_eq_true q1
    obtain rfl : res = false := by rw [HRS.out, if_pos q1]
    go_wp2_with (fail)
    go_ret
    exact ⟨rfl, HBF.out⟩
   have b1 : decide (f0 ≤ last) = false := decide_eq_false q1
   by_cases q2 : next ≤ f0
   ·have b2 : decide (next ≤ f0) = true := decide_eq_true q2
    obtain rfl : res = false := by rw [HRS.out, if_neg q1, if_pos q2]
    go_wp2_with (fail)
    go_ret
    exact ⟨rfl, HBF.out⟩
   have b2 : decide (next ≤ f0) = false := decide_eq_false q2
   by_cases q3 : ck = 0
   case neg =>
    obtain rfl : res = false := by rw [HRS.out, if_neg q1, if_neg q2, if_pos q3]
    go_wp2_with (fail)
    go_ret
    exact ⟨rfl, HBF.out⟩
   subst q3
   have HBT := Aside0.mk (between_hand A5 k5 f3 0 objs.length w3 hlf (Kd.C_below HC3.out HQ3.out))
   obtain ⟨bn, hbn⟩ : ∃ bn, numsB objs.length 0 f3 = bn := ⟨_, rfl⟩
   rw [hbn] at HBT
   have HR2 : Aside0 (res = if bn = true then objsFrom objs.length next f0 (objs.drop (t + 1)) else false) := ⟨by rw [HRS.out, if_neg q1, if_neg q2, if_neg (by decide), hbn]⟩
   have HX3 := Aside0.mk (below_step HX.out HQ3.out)
   clear hbn HRS
   go_wp2_with (fail)
   refine HBT.out.mono ?_
   rintro en w4 ⟨rfl, nd, rfl⟩
   cases bn with
   | false =>
    obtain rfl : res = false := by rw [HR2.out]; rfl
    go_wp2_with (fail)
    go_ret
    exact ⟨rfl, pw_below_drewN HBF.out _⟩
   | true =>
    have HS : Aside0 (res = objsFrom objs.length next f0 (objs.drop (t + 1))) := ⟨by rw [HR2.out, if_pos rfl]⟩
    clear HR2
    go_wp2_with (fail)
    go_roundw
    case rel => exact ⟨t + 1, f0, by omega, rfl, by go_num, HS, ⟨pw_below_drewN HX3.out _⟩⟩
    case measure => simp [intOf]; omega
  ·obtain rfl : res = true := by
    have : objs.drop t = [] := List.drop_eq_nil_of_le (by omega)
    rw [this] at HRS
    exact HRS.out
   go_wp2_with (fail)
   go_ret
   exact ⟨rfl, HBX.out⟩
end Go.Proofs.YtihjjkoddphmiaaGreatDoor.img
