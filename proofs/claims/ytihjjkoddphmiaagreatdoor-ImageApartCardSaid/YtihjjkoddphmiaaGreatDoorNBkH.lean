/-
  The walks of middenkept's hold..: of what was kept as it was noted they say true.
-/
import Derived.Test.YtihjjkoddphmiaaGreatDoorNBkS
namespace Go.Proofs.YtihjjkoddphmiaaGreatDoor.bk
open Go.RowKit Go.Proofs.YtihjjkoddphmiaaGreatDoorW.PrintWords Go.Proofs.YtihjjkoddphmiaaGreatDoorW.PrintLast Go.Proofs.YtihjjkoddphmiaaGreatDoorW.PrintMore Go.Proofs.YtihjjkoddphmiaaGreatDoor.PImageApart
set_option linter.unusedVariables false
set_option linter.unusedSimpArgs false

/-- Two rows of the Book, element by element as P asks. -/
def Hr (P : World → Value → Value → Prop) (w : World) (bk i j : Nat) : Prop := ∃ A B n c d, w.cell? ⟨bk, i, none⟩ = some (.slice A n c) ∧ w.cell? ⟨bk, j, none⟩ = some (.slice B n d) ∧ n ≤ 1099511627776 ∧
 ∀ i, i < n → ∃ a b x y, A = some ⟨a, 0, none⟩ ∧ B = some ⟨b, 0, none⟩ ∧ w.cell? ⟨a, i, none⟩ = some x ∧ w.cell? ⟨b, i, none⟩ = some y ∧ P w x y
theorem grown_step {w wr w1 : World} (h : w.grownBy wr none) (k : wr.grownBy w1 none) : w.grownBy w1 none := h.trans k

set_option maxHeartbeats 8000000 in
set_option maxRecDepth 100000 in
theorem hold_bytes (P : World → Value → Value → Prop) (hS : ∀ wx v u, P wx v u → Calls Tryz.prog 77 #[v, u] wx fun e w' => e = .returned (.bool true) ∧ wx.grownBy w' none) (hP : ∀ wx wy v u, P wx v u → wx.grownBy wy none → P wy v u)
  (bk : Nat) (w : World) (h1 : Hr P w bk 4 5) (h2 : Hr P w bk 6 7) : Calls Tryz.prog 39 #[.pointer (some ⟨bk, 0, none⟩)] w fun e w' => e = .returned (.bool true) ∧ w.grownBy w' none := by
 obtain ⟨A, B, n, c, d, hc1, hc2, hn, hc⟩ := h1
 obtain ⟨C, D, m, c', d', hc3, hc4, hm, hd⟩ := h2
 have HC := Aside0.mk hc
 have HD := Aside0.mk hd
 have HF := Aside0.mk (And.intro hc1 (And.intro hc2 (And.intro hc3 hc4)))
 have HS := Aside0.mk hS
 have HP := Aside0.mk hP
 have HG := Aside0.mk (grown_refl w none)
 clear hc hd hc1 hc2 hc3 hc4 hS hP
 go_enter Tryz.func39, Tryz.ntmps39
 go_wp2
 go_loopw [3] (fun i wr => ∃ k : Nat, k ≤ n ∧ i = .int .i64 k ∧ Aside0 (w.grownBy wr none)) (fun i _ => n - (intOf i).toNat)
 case atStart => exact ⟨0, Nat.zero_le _, rfl, HG⟩
 case round =>
  clear HG
  obtain ⟨k, hk, rfl, HG⟩ := hrel
  have g1 := HG.out.cell HF.out.1 (by simp)
  have g2 := HG.out.cell HF.out.2.1 (by simp)
  by_cases hlt : k < n
  ·obtain ⟨a, b, x, y, rfl, rfl, p1, p2, p3⟩ := HC.out k hlt
   have q1 := HG.out.cell p1 (by simp)
   have q2 := HG.out.cell p2 (by simp)
   have HX := Aside0.mk (HS.out wr.drew x y (HP.out _ _ _ _ (HP.out _ _ _ _ p3 HG.out) (grown_drew wr)))
   have HY := Aside0.mk (grown_step HG.out (grown_drew wr))
   clear p1 p2 p3
   go_wp2_with (fail)
   go_still_tail 14, (by kernel_rfl)
   change wpList _ _ _ _ _ wr.drew
   generalize wr.drew = wd at *
   go_wp2_with (fail)
   refine HX.out.mono ?_
   rintro en w4 ⟨rfl, hb4⟩
   have HZ := Aside0.mk (grown_step HY.out hb4)
   clear hb4 HX HY HG g1 g2 q1 q2
   go_wp2_with (fail)
   go_roundw
   case rel => exact ⟨k + 1, by omega, by go_num, HZ⟩
   case measure => simp [intOf]; omega
  ·go_wp2_with (fail)
   go_loopw [4] (fun i wr => ∃ k : Nat, k ≤ m ∧ i = .int .i64 k ∧ Aside0 (w.grownBy wr none)) (fun i _ => m - (intOf i).toNat)
   case atStart => exact ⟨0, Nat.zero_le _, rfl, HG⟩
   case round =>
    clear HG g1 g2
    obtain ⟨k, hk, rfl, HG⟩ := hrel
    have g1 := HG.out.cell HF.out.2.2.1 (by simp)
    have g2 := HG.out.cell HF.out.2.2.2 (by simp)
    by_cases hlt : k < m
    ·obtain ⟨a, b, x, y, rfl, rfl, p1, p2, p3⟩ := HD.out k hlt
     have q1 := HG.out.cell p1 (by simp)
     have q2 := HG.out.cell p2 (by simp)
     have HX := Aside0.mk (HP.out _ _ _ _ p3 HG.out)
     clear p1 p2 p3
     go_wp2_with (fail)
     go_still_tail 14, (by kernel_rfl)
     have HX := Aside0.mk (HS.out _ _ _ (HP.out _ _ _ _ HX.out (grown_drew _)))
     have HY := Aside0.mk (grown_step HG.out (grown_drew _))
     clear HG g1 g2 q1 q2
     go_wp2_with (fail)
     refine HX.out.mono ?_
     rintro en w4 ⟨rfl, hb4⟩
     have HZ := Aside0.mk (grown_step HY.out hb4)
     clear hb4 HX HY
     go_wp2_with (fail)
     go_roundw
     case rel => exact ⟨k + 1, by omega, by go_num, HZ⟩
     case measure => simp [intOf]; omega
    ·go_wp2_with (fail)
     go_ret
     exact ⟨rfl, HG.out⟩

set_option maxHeartbeats 8000000 in
set_option maxRecDepth 100000 in
theorem hold_ints (P : World → Value → Value → Prop) (hS : ∀ wx v u, P wx v u → Calls Tryz.prog 78 #[v, u] wx fun e w' => e = .returned (.bool true) ∧ wx.grownBy w' none) (hP : ∀ wx wy v u, P wx v u → wx.grownBy wy none → P wy v u)
  (bk : Nat) (w : World) (h1 : Hr P w bk 13 14) (h2 : Hr P w bk 15 16) : Calls Tryz.prog 40 #[.pointer (some ⟨bk, 0, none⟩)] w fun e w' => e = .returned (.bool true) ∧ w.grownBy w' none := by
 obtain ⟨A, B, n, c, d, hc1, hc2, hn, hc⟩ := h1
 obtain ⟨C, D, m, c', d', hc3, hc4, hm, hd⟩ := h2
 have HC := Aside0.mk hc
 have HD := Aside0.mk hd
 have HF := Aside0.mk (And.intro hc1 (And.intro hc2 (And.intro hc3 hc4)))
 have HS := Aside0.mk hS
 have HP := Aside0.mk hP
 have HG := Aside0.mk (grown_refl w none)
 clear hc hd hc1 hc2 hc3 hc4 hS hP
 go_enter Tryz.func40, Tryz.ntmps40
 go_wp2
 go_loopw [3] (fun i wr => ∃ k : Nat, k ≤ n ∧ i = .int .i64 k ∧ Aside0 (w.grownBy wr none)) (fun i _ => n - (intOf i).toNat)
 case atStart => exact ⟨0, Nat.zero_le _, rfl, HG⟩
 case round =>
  clear HG
  obtain ⟨k, hk, rfl, HG⟩ := hrel
  have g1 := HG.out.cell HF.out.1 (by simp)
  have g2 := HG.out.cell HF.out.2.1 (by simp)
  by_cases hlt : k < n
  ·obtain ⟨a, b, x, y, rfl, rfl, p1, p2, p3⟩ := HC.out k hlt
   have q1 := HG.out.cell p1 (by simp)
   have q2 := HG.out.cell p2 (by simp)
   have HX := Aside0.mk (HS.out wr.drew x y (HP.out _ _ _ _ (HP.out _ _ _ _ p3 HG.out) (grown_drew wr)))
   have HY := Aside0.mk (grown_step HG.out (grown_drew wr))
   clear p1 p2 p3
   go_wp2_with (fail)
   go_still_tail 14, (by kernel_rfl)
   change wpList _ _ _ _ _ wr.drew
   generalize wr.drew = wd at *
   go_wp2_with (fail)
   refine HX.out.mono ?_
   rintro en w4 ⟨rfl, hb4⟩
   have HZ := Aside0.mk (grown_step HY.out hb4)
   clear hb4 HX HY HG g1 g2 q1 q2
   go_wp2_with (fail)
   go_roundw
   case rel => exact ⟨k + 1, by omega, by go_num, HZ⟩
   case measure => simp [intOf]; omega
  ·go_wp2_with (fail)
   go_loopw [4] (fun i wr => ∃ k : Nat, k ≤ m ∧ i = .int .i64 k ∧ Aside0 (w.grownBy wr none)) (fun i _ => m - (intOf i).toNat)
   case atStart => exact ⟨0, Nat.zero_le _, rfl, HG⟩
   case round =>
    clear HG g1 g2
    obtain ⟨k, hk, rfl, HG⟩ := hrel
    have g1 := HG.out.cell HF.out.2.2.1 (by simp)
    have g2 := HG.out.cell HF.out.2.2.2 (by simp)
    by_cases hlt : k < m
    ·obtain ⟨a, b, x, y, rfl, rfl, p1, p2, p3⟩ := HD.out k hlt
     have q1 := HG.out.cell p1 (by simp)
     have q2 := HG.out.cell p2 (by simp)
     have HX := Aside0.mk (HP.out _ _ _ _ p3 HG.out)
     clear p1 p2 p3
     go_wp2_with (fail)
     go_still_tail 14, (by kernel_rfl)
     have HX := Aside0.mk (HS.out _ _ _ (HP.out _ _ _ _ HX.out (grown_drew _)))
     have HY := Aside0.mk (grown_step HG.out (grown_drew _))
     clear HG g1 g2 q1 q2
     go_wp2_with (fail)
     refine HX.out.mono ?_
     rintro en w4 ⟨rfl, hb4⟩
     have HZ := Aside0.mk (grown_step HY.out hb4)
     clear hb4 HX HY
     go_wp2_with (fail)
     go_roundw
     case rel => exact ⟨k + 1, by omega, by go_num, HZ⟩
     case measure => simp [intOf]; omega
    ·go_wp2_with (fail)
     go_ret
     exact ⟨rfl, HG.out⟩

set_option maxHeartbeats 8000000 in
set_option maxRecDepth 100000 in
theorem hold_words (P : World → Value → Value → Prop) (hS : ∀ wx v u, P wx v u → Calls Tryz.prog 80 #[v, u] wx fun e w' => e = .returned (.bool true) ∧ wx.grownBy w' none) (hP : ∀ wx wy v u, P wx v u → wx.grownBy wy none → P wy v u)
  (bk : Nat) (w : World) (h1 : Hr P w bk 31 32) (h2 : Hr P w bk 33 34) : Calls Tryz.prog 42 #[.pointer (some ⟨bk, 0, none⟩)] w fun e w' => e = .returned (.bool true) ∧ w.grownBy w' none := by
 obtain ⟨A, B, n, c, d, hc1, hc2, hn, hc⟩ := h1
 obtain ⟨C, D, m, c', d', hc3, hc4, hm, hd⟩ := h2
 have HC := Aside0.mk hc
 have HD := Aside0.mk hd
 have HF := Aside0.mk (And.intro hc1 (And.intro hc2 (And.intro hc3 hc4)))
 have HS := Aside0.mk hS
 have HP := Aside0.mk hP
 have HG := Aside0.mk (grown_refl w none)
 clear hc hd hc1 hc2 hc3 hc4 hS hP
 go_enter Tryz.func42, Tryz.ntmps42
 go_wp2
 go_loopw [3] (fun i wr => ∃ k : Nat, k ≤ n ∧ i = .int .i64 k ∧ Aside0 (w.grownBy wr none)) (fun i _ => n - (intOf i).toNat)
 case atStart => exact ⟨0, Nat.zero_le _, rfl, HG⟩
 case round =>
  clear HG
  obtain ⟨k, hk, rfl, HG⟩ := hrel
  have g1 := HG.out.cell HF.out.1 (by simp)
  have g2 := HG.out.cell HF.out.2.1 (by simp)
  by_cases hlt : k < n
  ·obtain ⟨a, b, x, y, rfl, rfl, p1, p2, p3⟩ := HC.out k hlt
   have q1 := HG.out.cell p1 (by simp)
   have q2 := HG.out.cell p2 (by simp)
   have HX := Aside0.mk (HS.out wr.drew x y (HP.out _ _ _ _ (HP.out _ _ _ _ p3 HG.out) (grown_drew wr)))
   have HY := Aside0.mk (grown_step HG.out (grown_drew wr))
   clear p1 p2 p3
   go_wp2_with (fail)
   go_still_tail 14, (by kernel_rfl)
   change wpList _ _ _ _ _ wr.drew
   generalize wr.drew = wd at *
   go_wp2_with (fail)
   refine HX.out.mono ?_
   rintro en w4 ⟨rfl, hb4⟩
   have HZ := Aside0.mk (grown_step HY.out hb4)
   clear hb4 HX HY HG g1 g2 q1 q2
   go_wp2_with (fail)
   go_roundw
   case rel => exact ⟨k + 1, by omega, by go_num, HZ⟩
   case measure => simp [intOf]; omega
  ·go_wp2_with (fail)
   go_loopw [4] (fun i wr => ∃ k : Nat, k ≤ m ∧ i = .int .i64 k ∧ Aside0 (w.grownBy wr none)) (fun i _ => m - (intOf i).toNat)
   case atStart => exact ⟨0, Nat.zero_le _, rfl, HG⟩
   case round =>
    clear HG g1 g2
    obtain ⟨k, hk, rfl, HG⟩ := hrel
    have g1 := HG.out.cell HF.out.2.2.1 (by simp)
    have g2 := HG.out.cell HF.out.2.2.2 (by simp)
    by_cases hlt : k < m
    ·obtain ⟨a, b, x, y, rfl, rfl, p1, p2, p3⟩ := HD.out k hlt
     have q1 := HG.out.cell p1 (by simp)
     have q2 := HG.out.cell p2 (by simp)
     have HX := Aside0.mk (HP.out _ _ _ _ p3 HG.out)
     clear p1 p2 p3
     go_wp2_with (fail)
     go_still_tail 14, (by kernel_rfl)
     have HX := Aside0.mk (HS.out _ _ _ (HP.out _ _ _ _ HX.out (grown_drew _)))
     have HY := Aside0.mk (grown_step HG.out (grown_drew _))
     clear HG g1 g2 q1 q2
     go_wp2_with (fail)
     refine HX.out.mono ?_
     rintro en w4 ⟨rfl, hb4⟩
     have HZ := Aside0.mk (grown_step HY.out hb4)
     clear hb4 HX HY
     go_wp2_with (fail)
     go_roundw
     case rel => exact ⟨k + 1, by omega, by go_num, HZ⟩
     case measure => simp [intOf]; omega
    ·go_wp2_with (fail)
     go_ret
     exact ⟨rfl, HG.out⟩

set_option maxHeartbeats 8000000 in
set_option maxRecDepth 100000 in
theorem hold_intLists (P : World → Value → Value → Prop) (hS : ∀ wx v u, P wx v u → Calls Tryz.prog 86 #[v, u] wx fun e w' => e = .returned (.bool true) ∧ wx.grownBy w' none) (hP : ∀ wx wy v u, P wx v u → wx.grownBy wy none → P wy v u)
  (bk : Nat) (w : World) (h1 : Hr P w bk 85 86) (h2 : Hr P w bk 87 88) : Calls Tryz.prog 48 #[.pointer (some ⟨bk, 0, none⟩)] w fun e w' => e = .returned (.bool true) ∧ w.grownBy w' none := by
 obtain ⟨A, B, n, c, d, hc1, hc2, hn, hc⟩ := h1
 obtain ⟨C, D, m, c', d', hc3, hc4, hm, hd⟩ := h2
 have HC := Aside0.mk hc
 have HD := Aside0.mk hd
 have HF := Aside0.mk (And.intro hc1 (And.intro hc2 (And.intro hc3 hc4)))
 have HS := Aside0.mk hS
 have HP := Aside0.mk hP
 have HG := Aside0.mk (grown_refl w none)
 clear hc hd hc1 hc2 hc3 hc4 hS hP
 go_enter Tryz.func48, Tryz.ntmps48
 go_wp2
 go_loopw [3] (fun i wr => ∃ k : Nat, k ≤ n ∧ i = .int .i64 k ∧ Aside0 (w.grownBy wr none)) (fun i _ => n - (intOf i).toNat)
 case atStart => exact ⟨0, Nat.zero_le _, rfl, HG⟩
 case round =>
  clear HG
  obtain ⟨k, hk, rfl, HG⟩ := hrel
  have g1 := HG.out.cell HF.out.1 (by simp)
  have g2 := HG.out.cell HF.out.2.1 (by simp)
  by_cases hlt : k < n
  ·obtain ⟨a, b, x, y, rfl, rfl, p1, p2, p3⟩ := HC.out k hlt
   have q1 := HG.out.cell p1 (by simp)
   have q2 := HG.out.cell p2 (by simp)
   have HX := Aside0.mk (HS.out wr.drew x y (HP.out _ _ _ _ (HP.out _ _ _ _ p3 HG.out) (grown_drew wr)))
   have HY := Aside0.mk (grown_step HG.out (grown_drew wr))
   clear p1 p2 p3
   go_wp2_with (fail)
   go_still_tail 14, (by kernel_rfl)
   change wpList _ _ _ _ _ wr.drew
   generalize wr.drew = wd at *
   go_wp2_with (fail)
   refine HX.out.mono ?_
   rintro en w4 ⟨rfl, hb4⟩
   have HZ := Aside0.mk (grown_step HY.out hb4)
   clear hb4 HX HY HG g1 g2 q1 q2
   go_wp2_with (fail)
   go_roundw
   case rel => exact ⟨k + 1, by omega, by go_num, HZ⟩
   case measure => simp [intOf]; omega
  ·go_wp2_with (fail)
   go_loopw [4] (fun i wr => ∃ k : Nat, k ≤ m ∧ i = .int .i64 k ∧ Aside0 (w.grownBy wr none)) (fun i _ => m - (intOf i).toNat)
   case atStart => exact ⟨0, Nat.zero_le _, rfl, HG⟩
   case round =>
    clear HG g1 g2
    obtain ⟨k, hk, rfl, HG⟩ := hrel
    have g1 := HG.out.cell HF.out.2.2.1 (by simp)
    have g2 := HG.out.cell HF.out.2.2.2 (by simp)
    by_cases hlt : k < m
    ·obtain ⟨a, b, x, y, rfl, rfl, p1, p2, p3⟩ := HD.out k hlt
     have q1 := HG.out.cell p1 (by simp)
     have q2 := HG.out.cell p2 (by simp)
     have HX := Aside0.mk (HP.out _ _ _ _ p3 HG.out)
     clear p1 p2 p3
     go_wp2_with (fail)
     go_still_tail 14, (by kernel_rfl)
     have HX := Aside0.mk (HS.out _ _ _ (HP.out _ _ _ _ HX.out (grown_drew _)))
     have HY := Aside0.mk (grown_step HG.out (grown_drew _))
     clear HG g1 g2 q1 q2
     go_wp2_with (fail)
     refine HX.out.mono ?_
     rintro en w4 ⟨rfl, hb4⟩
     have HZ := Aside0.mk (grown_step HY.out hb4)
     clear hb4 HX HY
     go_wp2_with (fail)
     go_roundw
     case rel => exact ⟨k + 1, by omega, by go_num, HZ⟩
     case measure => simp [intOf]; omega
    ·go_wp2_with (fail)
     go_ret
     exact ⟨rfl, HG.out⟩

set_option maxHeartbeats 8000000 in
set_option maxRecDepth 100000 in
theorem hold_frames (P : World → Value → Value → Prop) (hS : ∀ wx v u, P wx v u → Calls Tryz.prog 88 #[v, u] wx fun e w' => e = .returned (.bool true) ∧ wx.grownBy w' none) (hP : ∀ wx wy v u, P wx v u → wx.grownBy wy none → P wy v u)
  (bk : Nat) (w : World) (h1 : Hr P w bk 103 104) (h2 : Hr P w bk 105 106) : Calls Tryz.prog 50 #[.pointer (some ⟨bk, 0, none⟩)] w fun e w' => e = .returned (.bool true) ∧ w.grownBy w' none := by
 obtain ⟨A, B, n, c, d, hc1, hc2, hn, hc⟩ := h1
 obtain ⟨C, D, m, c', d', hc3, hc4, hm, hd⟩ := h2
 have HC := Aside0.mk hc
 have HD := Aside0.mk hd
 have HF := Aside0.mk (And.intro hc1 (And.intro hc2 (And.intro hc3 hc4)))
 have HS := Aside0.mk hS
 have HP := Aside0.mk hP
 have HG := Aside0.mk (grown_refl w none)
 clear hc hd hc1 hc2 hc3 hc4 hS hP
 go_enter Tryz.func50, Tryz.ntmps50
 go_wp2
 go_loopw [3] (fun i wr => ∃ k : Nat, k ≤ n ∧ i = .int .i64 k ∧ Aside0 (w.grownBy wr none)) (fun i _ => n - (intOf i).toNat)
 case atStart => exact ⟨0, Nat.zero_le _, rfl, HG⟩
 case round =>
  clear HG
  obtain ⟨k, hk, rfl, HG⟩ := hrel
  have g1 := HG.out.cell HF.out.1 (by simp)
  have g2 := HG.out.cell HF.out.2.1 (by simp)
  by_cases hlt : k < n
  ·obtain ⟨a, b, x, y, rfl, rfl, p1, p2, p3⟩ := HC.out k hlt
   have q1 := HG.out.cell p1 (by simp)
   have q2 := HG.out.cell p2 (by simp)
   have HX := Aside0.mk (HS.out wr.drew x y (HP.out _ _ _ _ (HP.out _ _ _ _ p3 HG.out) (grown_drew wr)))
   have HY := Aside0.mk (grown_step HG.out (grown_drew wr))
   clear p1 p2 p3
   go_wp2_with (fail)
   go_still_tail 14, (by kernel_rfl)
   change wpList _ _ _ _ _ wr.drew
   generalize wr.drew = wd at *
   go_wp2_with (fail)
   refine HX.out.mono ?_
   rintro en w4 ⟨rfl, hb4⟩
   have HZ := Aside0.mk (grown_step HY.out hb4)
   clear hb4 HX HY HG g1 g2 q1 q2
   go_wp2_with (fail)
   go_roundw
   case rel => exact ⟨k + 1, by omega, by go_num, HZ⟩
   case measure => simp [intOf]; omega
  ·go_wp2_with (fail)
   go_loopw [4] (fun i wr => ∃ k : Nat, k ≤ m ∧ i = .int .i64 k ∧ Aside0 (w.grownBy wr none)) (fun i _ => m - (intOf i).toNat)
   case atStart => exact ⟨0, Nat.zero_le _, rfl, HG⟩
   case round =>
    clear HG g1 g2
    obtain ⟨k, hk, rfl, HG⟩ := hrel
    have g1 := HG.out.cell HF.out.2.2.1 (by simp)
    have g2 := HG.out.cell HF.out.2.2.2 (by simp)
    by_cases hlt : k < m
    ·obtain ⟨a, b, x, y, rfl, rfl, p1, p2, p3⟩ := HD.out k hlt
     have q1 := HG.out.cell p1 (by simp)
     have q2 := HG.out.cell p2 (by simp)
     have HX := Aside0.mk (HP.out _ _ _ _ p3 HG.out)
     clear p1 p2 p3
     go_wp2_with (fail)
     go_still_tail 14, (by kernel_rfl)
     have HX := Aside0.mk (HS.out _ _ _ (HP.out _ _ _ _ HX.out (grown_drew _)))
     have HY := Aside0.mk (grown_step HG.out (grown_drew _))
     clear HG g1 g2 q1 q2
     go_wp2_with (fail)
     refine HX.out.mono ?_
     rintro en w4 ⟨rfl, hb4⟩
     have HZ := Aside0.mk (grown_step HY.out hb4)
     clear hb4 HX HY
     go_wp2_with (fail)
     go_roundw
     case rel => exact ⟨k + 1, by omega, by go_num, HZ⟩
     case measure => simp [intOf]; omega
    ·go_wp2_with (fail)
     go_ret
     exact ⟨rfl, HG.out⟩

set_option maxHeartbeats 8000000 in
set_option maxRecDepth 100000 in
theorem hold_objects (P : World → Value → Value → Prop) (hS : ∀ wx v u, P wx v u → Calls Tryz.prog 89 #[v, u] wx fun e w' => e = .returned (.bool true) ∧ wx.grownBy w' none) (hP : ∀ wx wy v u, P wx v u → wx.grownBy wy none → P wy v u)
  (bk : Nat) (w : World) (h1 : Hr P w bk 112 113) (h2 : Hr P w bk 114 115) : Calls Tryz.prog 51 #[.pointer (some ⟨bk, 0, none⟩)] w fun e w' => e = .returned (.bool true) ∧ w.grownBy w' none := by
 obtain ⟨A, B, n, c, d, hc1, hc2, hn, hc⟩ := h1
 obtain ⟨C, D, m, c', d', hc3, hc4, hm, hd⟩ := h2
 have HC := Aside0.mk hc
 have HD := Aside0.mk hd
 have HF := Aside0.mk (And.intro hc1 (And.intro hc2 (And.intro hc3 hc4)))
 have HS := Aside0.mk hS
 have HP := Aside0.mk hP
 have HG := Aside0.mk (grown_refl w none)
 clear hc hd hc1 hc2 hc3 hc4 hS hP
 go_enter Tryz.func51, Tryz.ntmps51
 go_wp2
 go_loopw [3] (fun i wr => ∃ k : Nat, k ≤ n ∧ i = .int .i64 k ∧ Aside0 (w.grownBy wr none)) (fun i _ => n - (intOf i).toNat)
 case atStart => exact ⟨0, Nat.zero_le _, rfl, HG⟩
 case round =>
  clear HG
  obtain ⟨k, hk, rfl, HG⟩ := hrel
  have g1 := HG.out.cell HF.out.1 (by simp)
  have g2 := HG.out.cell HF.out.2.1 (by simp)
  by_cases hlt : k < n
  ·obtain ⟨a, b, x, y, rfl, rfl, p1, p2, p3⟩ := HC.out k hlt
   have q1 := HG.out.cell p1 (by simp)
   have q2 := HG.out.cell p2 (by simp)
   have HX := Aside0.mk (HS.out wr.drew x y (HP.out _ _ _ _ (HP.out _ _ _ _ p3 HG.out) (grown_drew wr)))
   have HY := Aside0.mk (grown_step HG.out (grown_drew wr))
   clear p1 p2 p3
   go_wp2_with (fail)
   go_still_tail 14, (by kernel_rfl)
   change wpList _ _ _ _ _ wr.drew
   generalize wr.drew = wd at *
   go_wp2_with (fail)
   refine HX.out.mono ?_
   rintro en w4 ⟨rfl, hb4⟩
   have HZ := Aside0.mk (grown_step HY.out hb4)
   clear hb4 HX HY HG g1 g2 q1 q2
   go_wp2_with (fail)
   go_roundw
   case rel => exact ⟨k + 1, by omega, by go_num, HZ⟩
   case measure => simp [intOf]; omega
  ·go_wp2_with (fail)
   go_loopw [4] (fun i wr => ∃ k : Nat, k ≤ m ∧ i = .int .i64 k ∧ Aside0 (w.grownBy wr none)) (fun i _ => m - (intOf i).toNat)
   case atStart => exact ⟨0, Nat.zero_le _, rfl, HG⟩
   case round =>
    clear HG g1 g2
    obtain ⟨k, hk, rfl, HG⟩ := hrel
    have g1 := HG.out.cell HF.out.2.2.1 (by simp)
    have g2 := HG.out.cell HF.out.2.2.2 (by simp)
    by_cases hlt : k < m
    ·obtain ⟨a, b, x, y, rfl, rfl, p1, p2, p3⟩ := HD.out k hlt
     have q1 := HG.out.cell p1 (by simp)
     have q2 := HG.out.cell p2 (by simp)
     have HX := Aside0.mk (HP.out _ _ _ _ p3 HG.out)
     clear p1 p2 p3
     go_wp2_with (fail)
     go_still_tail 14, (by kernel_rfl)
     have HX := Aside0.mk (HS.out _ _ _ (HP.out _ _ _ _ HX.out (grown_drew _)))
     have HY := Aside0.mk (grown_step HG.out (grown_drew _))
     clear HG g1 g2 q1 q2
     go_wp2_with (fail)
     refine HX.out.mono ?_
     rintro en w4 ⟨rfl, hb4⟩
     have HZ := Aside0.mk (grown_step HY.out hb4)
     clear hb4 HX HY
     go_wp2_with (fail)
     go_roundw
     case rel => exact ⟨k + 1, by omega, by go_num, HZ⟩
     case measure => simp [intOf]; omega
    ·go_wp2_with (fail)
     go_ret
     exact ⟨rfl, HG.out⟩
end Go.Proofs.YtihjjkoddphmiaaGreatDoor.bk
