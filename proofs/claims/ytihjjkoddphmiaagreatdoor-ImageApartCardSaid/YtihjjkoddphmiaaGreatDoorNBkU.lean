/-
  The walks of (*Book).marks, grows, Hold and of done at its end.
-/
import Derived.Test.YtihjjkoddphmiaaGreatDoorNBkS
import Derived.Test.YtihjjkoddphmiaaGreatDoorNBkZ
import Derived.Test.YtihjjkoddphmiaaGreatDoorNBkZb
import Derived.Test.YtihjjkoddphmiaaGreatDoorNBkY
import Derived.Test.YtihjjkoddphmiaaGreatDoorNBkH
namespace Go.Proofs.YtihjjkoddphmiaaGreatDoor.bk
open Go.RowKit Go.Proofs.YtihjjkoddphmiaaGreatDoorW.PrintWords Go.Proofs.YtihjjkoddphmiaaGreatDoorW.PrintLast Go.Proofs.YtihjjkoddphmiaaGreatDoorW.PrintMore Go.Proofs.YtihjjkoddphmiaaGreatDoor.PImageApart
set_option linter.unusedVariables false
set_option linter.unusedSimpArgs false

/-- Cell j of the Book holds nothing. -/
def Nl (w : World) (bk j : Nat) : Prop := w.cell? ⟨bk, j, none⟩ = some (.slice none 0 0)

set_option maxHeartbeats 4000000 in
set_option maxRecDepth 100000 in
theorem mark_bools (bk : Nat) (w : World) (h2 : Nl w bk 24) (h3 : Nl w bk 25) (h5 : Nl w bk 27) (h6 : Nl w bk 28) : Calls Tryz.prog 97 #[.pointer (some ⟨bk, 0, none⟩)] w fun e w' => e = .returned (.tuple #[]) ∧ w' = w := by
 unfold Nl at *
 go_enter Tryz.func97, Tryz.ntmps97
 go_wp2
 refine bodyPost_ret (results_none rfl _ _ _) rfl ?_
 exact ⟨rfl, rfl⟩
set_option maxHeartbeats 4000000 in
set_option maxRecDepth 100000 in
theorem grow_bools (bk : Nat) (w : World) (h4 : Nl w bk 26) (h7 : Nl w bk 29) (f4 : w.frozen? ⟨bk, 26, none⟩ = false) (f7 : w.frozen? ⟨bk, 29, none⟩ = false) : Calls Tryz.prog 110 #[.pointer (some ⟨bk, 0, none⟩)] w fun e w' => e = .returned (.tuple #[]) ∧ w' = w := by
 unfold Nl at *
 have e4 := img.setCell_id h4
 go_enter Tryz.func110, Tryz.ntmps110
 go_wp2
 go_loopw [2] (fun i wr => i = .int .i64 0 ∧ wr = w) (fun _ _ => 0)
 case atStart => exact ⟨rfl, rfl⟩
 case round =>
  obtain ⟨rfl, rfl⟩ := hrel
  have e7 := img.setCell_id h7
  go_wp2
  go_end0
  exact ⟨rfl, rfl⟩
set_option maxHeartbeats 4000000 in
set_option maxRecDepth 100000 in
theorem hold_bools (bk : Nat) (w : World) (h0 : Nl w bk 22) (h2 : Nl w bk 24) : Calls Tryz.prog 41 #[.pointer (some ⟨bk, 0, none⟩)] w fun e w' => e = .returned (.bool true) ∧ w' = w := by
 unfold Nl at *
 go_enter Tryz.func41, Tryz.ntmps41
 go_wp2
 go_loopw [3] (fun i wr => i = .int .i64 0 ∧ wr = w) (fun _ _ => 0)
 case atStart => exact ⟨rfl, rfl⟩
 case round =>
  obtain ⟨rfl, rfl⟩ := hrel
  go_wp2
  go_loopw [4] (fun i wx => i = .int .i64 0 ∧ wx = wr) (fun _ _ => 0)
  case atStart => exact ⟨rfl, rfl⟩
  case round =>
   obtain ⟨rfl, rfl⟩ := hrel
   go_wp2
   go_ret
   exact ⟨rfl, rfl⟩

set_option maxHeartbeats 4000000 in
set_option maxRecDepth 100000 in
theorem mark_texts (bk : Nat) (w : World) (h2 : Nl w bk 42) (h3 : Nl w bk 43) (h5 : Nl w bk 45) (h6 : Nl w bk 46) : Calls Tryz.prog 99 #[.pointer (some ⟨bk, 0, none⟩)] w fun e w' => e = .returned (.tuple #[]) ∧ w' = w := by
 unfold Nl at *
 go_enter Tryz.func99, Tryz.ntmps99
 go_wp2
 refine bodyPost_ret (results_none rfl _ _ _) rfl ?_
 exact ⟨rfl, rfl⟩
set_option maxHeartbeats 4000000 in
set_option maxRecDepth 100000 in
theorem grow_texts (bk : Nat) (w : World) (h4 : Nl w bk 44) (h7 : Nl w bk 47) (f4 : w.frozen? ⟨bk, 44, none⟩ = false) (f7 : w.frozen? ⟨bk, 47, none⟩ = false) : Calls Tryz.prog 112 #[.pointer (some ⟨bk, 0, none⟩)] w fun e w' => e = .returned (.tuple #[]) ∧ w' = w := by
 unfold Nl at *
 have e4 := img.setCell_id h4
 go_enter Tryz.func112, Tryz.ntmps112
 go_wp2
 go_loopw [2] (fun i wr => i = .int .i64 0 ∧ wr = w) (fun _ _ => 0)
 case atStart => exact ⟨rfl, rfl⟩
 case round =>
  obtain ⟨rfl, rfl⟩ := hrel
  have e7 := img.setCell_id h7
  go_wp2
  go_end0
  exact ⟨rfl, rfl⟩
set_option maxHeartbeats 4000000 in
set_option maxRecDepth 100000 in
theorem hold_texts (bk : Nat) (w : World) (h0 : Nl w bk 40) (h2 : Nl w bk 42) : Calls Tryz.prog 43 #[.pointer (some ⟨bk, 0, none⟩)] w fun e w' => e = .returned (.bool true) ∧ w' = w := by
 unfold Nl at *
 go_enter Tryz.func43, Tryz.ntmps43
 go_wp2
 go_loopw [3] (fun i wr => i = .int .i64 0 ∧ wr = w) (fun _ _ => 0)
 case atStart => exact ⟨rfl, rfl⟩
 case round =>
  obtain ⟨rfl, rfl⟩ := hrel
  go_wp2
  go_loopw [4] (fun i wx => i = .int .i64 0 ∧ wx = wr) (fun _ _ => 0)
  case atStart => exact ⟨rfl, rfl⟩
  case round =>
   obtain ⟨rfl, rfl⟩ := hrel
   go_wp2
   go_ret
   exact ⟨rfl, rfl⟩

set_option maxHeartbeats 4000000 in
set_option maxRecDepth 100000 in
theorem mark_moves (bk : Nat) (w : World) (h2 : Nl w bk 51) (h3 : Nl w bk 52) (h5 : Nl w bk 54) (h6 : Nl w bk 55) : Calls Tryz.prog 100 #[.pointer (some ⟨bk, 0, none⟩)] w fun e w' => e = .returned (.tuple #[]) ∧ w' = w := by
 unfold Nl at *
 go_enter Tryz.func100, Tryz.ntmps100
 go_wp2
 refine bodyPost_ret (results_none rfl _ _ _) rfl ?_
 exact ⟨rfl, rfl⟩
set_option maxHeartbeats 4000000 in
set_option maxRecDepth 100000 in
theorem grow_moves (bk : Nat) (w : World) (h4 : Nl w bk 53) (h7 : Nl w bk 56) (f4 : w.frozen? ⟨bk, 53, none⟩ = false) (f7 : w.frozen? ⟨bk, 56, none⟩ = false) : Calls Tryz.prog 113 #[.pointer (some ⟨bk, 0, none⟩)] w fun e w' => e = .returned (.tuple #[]) ∧ w' = w := by
 unfold Nl at *
 have e4 := img.setCell_id h4
 go_enter Tryz.func113, Tryz.ntmps113
 go_wp2
 go_loopw [2] (fun i wr => i = .int .i64 0 ∧ wr = w) (fun _ _ => 0)
 case atStart => exact ⟨rfl, rfl⟩
 case round =>
  obtain ⟨rfl, rfl⟩ := hrel
  have e7 := img.setCell_id h7
  go_wp2
  go_end0
  exact ⟨rfl, rfl⟩
set_option maxHeartbeats 4000000 in
set_option maxRecDepth 100000 in
theorem hold_moves (bk : Nat) (w : World) (h0 : Nl w bk 49) (h2 : Nl w bk 51) : Calls Tryz.prog 44 #[.pointer (some ⟨bk, 0, none⟩)] w fun e w' => e = .returned (.bool true) ∧ w' = w := by
 unfold Nl at *
 go_enter Tryz.func44, Tryz.ntmps44
 go_wp2
 go_loopw [3] (fun i wr => i = .int .i64 0 ∧ wr = w) (fun _ _ => 0)
 case atStart => exact ⟨rfl, rfl⟩
 case round =>
  obtain ⟨rfl, rfl⟩ := hrel
  go_wp2
  go_loopw [4] (fun i wx => i = .int .i64 0 ∧ wx = wr) (fun _ _ => 0)
  case atStart => exact ⟨rfl, rfl⟩
  case round =>
   obtain ⟨rfl, rfl⟩ := hrel
   go_wp2
   go_ret
   exact ⟨rfl, rfl⟩

set_option maxHeartbeats 4000000 in
set_option maxRecDepth 100000 in
theorem mark_sites (bk : Nat) (w : World) (h2 : Nl w bk 60) (h3 : Nl w bk 61) (h5 : Nl w bk 63) (h6 : Nl w bk 64) : Calls Tryz.prog 101 #[.pointer (some ⟨bk, 0, none⟩)] w fun e w' => e = .returned (.tuple #[]) ∧ w' = w := by
 unfold Nl at *
 go_enter Tryz.func101, Tryz.ntmps101
 go_wp2
 refine bodyPost_ret (results_none rfl _ _ _) rfl ?_
 exact ⟨rfl, rfl⟩
set_option maxHeartbeats 4000000 in
set_option maxRecDepth 100000 in
theorem grow_sites (bk : Nat) (w : World) (h4 : Nl w bk 62) (h7 : Nl w bk 65) (f4 : w.frozen? ⟨bk, 62, none⟩ = false) (f7 : w.frozen? ⟨bk, 65, none⟩ = false) : Calls Tryz.prog 114 #[.pointer (some ⟨bk, 0, none⟩)] w fun e w' => e = .returned (.tuple #[]) ∧ w' = w := by
 unfold Nl at *
 have e4 := img.setCell_id h4
 go_enter Tryz.func114, Tryz.ntmps114
 go_wp2
 go_loopw [2] (fun i wr => i = .int .i64 0 ∧ wr = w) (fun _ _ => 0)
 case atStart => exact ⟨rfl, rfl⟩
 case round =>
  obtain ⟨rfl, rfl⟩ := hrel
  have e7 := img.setCell_id h7
  go_wp2
  go_end0
  exact ⟨rfl, rfl⟩
set_option maxHeartbeats 4000000 in
set_option maxRecDepth 100000 in
theorem hold_sites (bk : Nat) (w : World) (h0 : Nl w bk 58) (h2 : Nl w bk 60) : Calls Tryz.prog 45 #[.pointer (some ⟨bk, 0, none⟩)] w fun e w' => e = .returned (.bool true) ∧ w' = w := by
 unfold Nl at *
 go_enter Tryz.func45, Tryz.ntmps45
 go_wp2
 go_loopw [3] (fun i wr => i = .int .i64 0 ∧ wr = w) (fun _ _ => 0)
 case atStart => exact ⟨rfl, rfl⟩
 case round =>
  obtain ⟨rfl, rfl⟩ := hrel
  go_wp2
  go_loopw [4] (fun i wx => i = .int .i64 0 ∧ wx = wr) (fun _ _ => 0)
  case atStart => exact ⟨rfl, rfl⟩
  case round =>
   obtain ⟨rfl, rfl⟩ := hrel
   go_wp2
   go_ret
   exact ⟨rfl, rfl⟩

set_option maxHeartbeats 4000000 in
set_option maxRecDepth 100000 in
theorem mark_growths (bk : Nat) (w : World) (h2 : Nl w bk 69) (h3 : Nl w bk 70) (h5 : Nl w bk 72) (h6 : Nl w bk 73) : Calls Tryz.prog 102 #[.pointer (some ⟨bk, 0, none⟩)] w fun e w' => e = .returned (.tuple #[]) ∧ w' = w := by
 unfold Nl at *
 go_enter Tryz.func102, Tryz.ntmps102
 go_wp2
 refine bodyPost_ret (results_none rfl _ _ _) rfl ?_
 exact ⟨rfl, rfl⟩
set_option maxHeartbeats 4000000 in
set_option maxRecDepth 100000 in
theorem grow_growths (bk : Nat) (w : World) (h4 : Nl w bk 71) (h7 : Nl w bk 74) (f4 : w.frozen? ⟨bk, 71, none⟩ = false) (f7 : w.frozen? ⟨bk, 74, none⟩ = false) : Calls Tryz.prog 115 #[.pointer (some ⟨bk, 0, none⟩)] w fun e w' => e = .returned (.tuple #[]) ∧ w' = w := by
 unfold Nl at *
 have e4 := img.setCell_id h4
 go_enter Tryz.func115, Tryz.ntmps115
 go_wp2
 go_loopw [2] (fun i wr => i = .int .i64 0 ∧ wr = w) (fun _ _ => 0)
 case atStart => exact ⟨rfl, rfl⟩
 case round =>
  obtain ⟨rfl, rfl⟩ := hrel
  have e7 := img.setCell_id h7
  go_wp2
  go_end0
  exact ⟨rfl, rfl⟩
set_option maxHeartbeats 4000000 in
set_option maxRecDepth 100000 in
theorem hold_growths (bk : Nat) (w : World) (h0 : Nl w bk 67) (h2 : Nl w bk 69) : Calls Tryz.prog 46 #[.pointer (some ⟨bk, 0, none⟩)] w fun e w' => e = .returned (.bool true) ∧ w' = w := by
 unfold Nl at *
 go_enter Tryz.func46, Tryz.ntmps46
 go_wp2
 go_loopw [3] (fun i wr => i = .int .i64 0 ∧ wr = w) (fun _ _ => 0)
 case atStart => exact ⟨rfl, rfl⟩
 case round =>
  obtain ⟨rfl, rfl⟩ := hrel
  go_wp2
  go_loopw [4] (fun i wx => i = .int .i64 0 ∧ wx = wr) (fun _ _ => 0)
  case atStart => exact ⟨rfl, rfl⟩
  case round =>
   obtain ⟨rfl, rfl⟩ := hrel
   go_wp2
   go_ret
   exact ⟨rfl, rfl⟩

set_option maxHeartbeats 4000000 in
set_option maxRecDepth 100000 in
theorem mark_ops (bk : Nat) (w : World) (h2 : Nl w bk 78) (h3 : Nl w bk 79) (h5 : Nl w bk 81) (h6 : Nl w bk 82) : Calls Tryz.prog 103 #[.pointer (some ⟨bk, 0, none⟩)] w fun e w' => e = .returned (.tuple #[]) ∧ w' = w := by
 unfold Nl at *
 go_enter Tryz.func103, Tryz.ntmps103
 go_wp2
 refine bodyPost_ret (results_none rfl _ _ _) rfl ?_
 exact ⟨rfl, rfl⟩
set_option maxHeartbeats 4000000 in
set_option maxRecDepth 100000 in
theorem grow_ops (bk : Nat) (w : World) (h4 : Nl w bk 80) (h7 : Nl w bk 83) (f4 : w.frozen? ⟨bk, 80, none⟩ = false) (f7 : w.frozen? ⟨bk, 83, none⟩ = false) : Calls Tryz.prog 116 #[.pointer (some ⟨bk, 0, none⟩)] w fun e w' => e = .returned (.tuple #[]) ∧ w' = w := by
 unfold Nl at *
 have e4 := img.setCell_id h4
 go_enter Tryz.func116, Tryz.ntmps116
 go_wp2
 go_loopw [2] (fun i wr => i = .int .i64 0 ∧ wr = w) (fun _ _ => 0)
 case atStart => exact ⟨rfl, rfl⟩
 case round =>
  obtain ⟨rfl, rfl⟩ := hrel
  have e7 := img.setCell_id h7
  go_wp2
  go_end0
  exact ⟨rfl, rfl⟩
set_option maxHeartbeats 4000000 in
set_option maxRecDepth 100000 in
theorem hold_ops (bk : Nat) (w : World) (h0 : Nl w bk 76) (h2 : Nl w bk 78) : Calls Tryz.prog 47 #[.pointer (some ⟨bk, 0, none⟩)] w fun e w' => e = .returned (.bool true) ∧ w' = w := by
 unfold Nl at *
 go_enter Tryz.func47, Tryz.ntmps47
 go_wp2
 go_loopw [3] (fun i wr => i = .int .i64 0 ∧ wr = w) (fun _ _ => 0)
 case atStart => exact ⟨rfl, rfl⟩
 case round =>
  obtain ⟨rfl, rfl⟩ := hrel
  go_wp2
  go_loopw [4] (fun i wx => i = .int .i64 0 ∧ wx = wr) (fun _ _ => 0)
  case atStart => exact ⟨rfl, rfl⟩
  case round =>
   obtain ⟨rfl, rfl⟩ := hrel
   go_wp2
   go_ret
   exact ⟨rfl, rfl⟩

set_option maxHeartbeats 4000000 in
set_option maxRecDepth 100000 in
theorem mark_wordLists (bk : Nat) (w : World) (h2 : Nl w bk 96) (h3 : Nl w bk 97) (h5 : Nl w bk 99) (h6 : Nl w bk 100) : Calls Tryz.prog 105 #[.pointer (some ⟨bk, 0, none⟩)] w fun e w' => e = .returned (.tuple #[]) ∧ w' = w := by
 unfold Nl at *
 go_enter Tryz.func105, Tryz.ntmps105
 go_wp2
 refine bodyPost_ret (results_none rfl _ _ _) rfl ?_
 exact ⟨rfl, rfl⟩
set_option maxHeartbeats 4000000 in
set_option maxRecDepth 100000 in
theorem grow_wordLists (bk : Nat) (w : World) (h4 : Nl w bk 98) (h7 : Nl w bk 101) (f4 : w.frozen? ⟨bk, 98, none⟩ = false) (f7 : w.frozen? ⟨bk, 101, none⟩ = false) : Calls Tryz.prog 118 #[.pointer (some ⟨bk, 0, none⟩)] w fun e w' => e = .returned (.tuple #[]) ∧ w' = w := by
 unfold Nl at *
 have e4 := img.setCell_id h4
 go_enter Tryz.func118, Tryz.ntmps118
 go_wp2
 go_loopw [2] (fun i wr => i = .int .i64 0 ∧ wr = w) (fun _ _ => 0)
 case atStart => exact ⟨rfl, rfl⟩
 case round =>
  obtain ⟨rfl, rfl⟩ := hrel
  have e7 := img.setCell_id h7
  go_wp2
  go_end0
  exact ⟨rfl, rfl⟩
set_option maxHeartbeats 4000000 in
set_option maxRecDepth 100000 in
theorem hold_wordLists (bk : Nat) (w : World) (h0 : Nl w bk 94) (h2 : Nl w bk 96) : Calls Tryz.prog 49 #[.pointer (some ⟨bk, 0, none⟩)] w fun e w' => e = .returned (.bool true) ∧ w' = w := by
 unfold Nl at *
 go_enter Tryz.func49, Tryz.ntmps49
 go_wp2
 go_loopw [3] (fun i wr => i = .int .i64 0 ∧ wr = w) (fun _ _ => 0)
 case atStart => exact ⟨rfl, rfl⟩
 case round =>
  obtain ⟨rfl, rfl⟩ := hrel
  go_wp2
  go_loopw [4] (fun i wx => i = .int .i64 0 ∧ wx = wr) (fun _ _ => 0)
  case atStart => exact ⟨rfl, rfl⟩
  case round =>
   obtain ⟨rfl, rfl⟩ := hrel
   go_wp2
   go_ret
   exact ⟨rfl, rfl⟩
end Go.Proofs.YtihjjkoddphmiaaGreatDoor.bk
namespace Go.Proofs.YtihjjkoddphmiaaGreatDoor.bk
open Go.RowKit Go.Proofs.YtihjjkoddphmiaaGreatDoorW.PrintWords Go.Proofs.YtihjjkoddphmiaaGreatDoorW.PrintLast Go.Proofs.YtihjjkoddphmiaaGreatDoorW.PrintMore Go.Proofs.YtihjjkoddphmiaaGreatDoor.PImageApart
set_option linter.unusedVariables false
set_option linter.unusedSimpArgs false
theorem Q9.grown {P : World → Value → Value → Prop} (hP : ∀ wx wy v u, P wx v u → wx.grownBy wy none → P wy v u) {w w1 : World} {v u : Value} (h : Q9 P w v u) (hg : w.grownBy w1 none) : Q9 P w1 v u := by
 obtain ⟨A, B, n, c, d, rfl, rfl, hn, hc⟩ := h
 refine ⟨A, B, n, c, d, rfl, rfl, hn, fun i hi => ?_⟩
 obtain ⟨a, b, x, e1, e2, e3, e4, e5⟩ := hc i hi
 exact ⟨a, b, x, e1, e2, hg.cell e3 (by simp), hg.cell e4 (by simp), hP _ _ _ _ e5 hg⟩
theorem Q12.grown {w w1 : World} {v u : Value} (h : Q12 w v u) (hg : w.grownBy w1 none) : Q12 w1 v u := by
 obtain ⟨A, B, n, c, d, rfl, rfl, hn, hc⟩ := h
 refine ⟨A, B, n, c, d, rfl, rfl, hn, fun i hi => ?_⟩
 obtain ⟨a, b, x, y, z, p, r, e1, e2, ⟨f0, f1, f2, f3, f4⟩, ⟨g0, g1, g2, g3, g4⟩, e5, e6⟩ := hc i hi
 exact ⟨a, b, x, y, z, p, r, e1, e2, ⟨hg.cell f0 (by simp), hg.cell f1 (by simp), hg.cell f2 (by simp), hg.cell f3 (by simp), hg.cell f4 (by simp)⟩, ⟨hg.cell g0 (by simp), hg.cell g1 (by simp), hg.cell g2 (by simp), hg.cell g3 (by simp), hg.cell g4 (by simp)⟩, e5.grown hg, e6.grown hg⟩
section
variable {m : Nat → Prop} {w : World} {bk R : Nat} {s : Nat → Option Bl} {V : Nat → Value} {X : Nat → List Value} {d : Int}
theorem All.nl (h : All m w bk s V X R d) (q : Nat) (hq : ¬ live q) (h13 : q < 13) (i : Nat) (hi : i < 8) : Nl w bk (4 + 9 * q + i) := (h.sh.cell (j := 4 + 9 * q + i) (by omega)).trans (congrArg some (h.dd q hq h13 i hi))
theorem Sh.hr (h : Sh m w bk s V X) {P : World → Value → Value → Prop} {i j : Nat} (hi : i < 121) (hj : j < 121) (ri : rty i ≠ 0) (rj : rty j ≠ 0) (hl : (X j).length = (X i).length) (hn : (X i).length ≤ 1099511627776) (hp : ∀ (k : Nat) (v u : Value), (X i)[k]? = some v → (X j)[k]? = some u → P w v u) : Hr P w bk i j := by
 obtain ⟨A, c, e1⟩ := h.slice ri
 obtain ⟨B, d, e2⟩ := h.slice rj
 refine ⟨A, B, (X i).length, c, d, (h.cell hi).trans (congrArg some e1), (h.cell hj).trans (by rw [e2, hl]), hn, fun k hk => ?_⟩
 have hx := List.getElem?_eq_getElem hk
 have hy := List.getElem?_eq_getElem (show k < (X j).length by omega)
 obtain ⟨a, c1, f1, f2⟩ := h.rcell ri hx
 obtain ⟨b, c2, g1, g2⟩ := h.rcell rj hy
 rw [e1] at f1; injection f1 with f1
 rw [e2] at g1; injection g1 with g1
 exact ⟨a, b, _, _, f1, g1, f2, g2, hp k _ _ hx hy⟩
theorem All.hr (h : All m w bk s V X R d) {q : Nat} (hq : live q) {P : World → Value → Value → Prop} (hp : ∀ v u a b, Pr s q a b v u → P w v u) : Hr P w bk (4 + 9 * q) (5 + 9 * q) ∧ Hr P w bk (6 + 9 * q) (7 + 9 * q) := by
 have hq13 : q < 13 := by unfold live at hq; omega
 have hk := (h.ks q hq).ki
 have hl := h.lens hq
 exact ⟨h.sh.hr (by omega) (by omega) (rtyq q hq13 _ (by omega) (by omega)) (rtyq q hq13 _ (by omega) (by omega)) hk.ot hl.1 (fun k v u e1 e2 => hp v u _ _ (hk.op k v u e1 e2)), h.sh.hr (by omega) (by omega) (rtyq q hq13 _ (by omega) (by omega)) (rtyq q hq13 _ (by omega) (by omega)) hk.wn hl.2.2.1 (fun k v u e1 e2 => hp v u _ _ (hk.wp k v u e1 e2))⟩
set_option maxHeartbeats 4000000 in
set_option maxRecDepth 100000 in
theorem marks_any (h : All m w bk s V X R d) : Calls Tryz.prog 75 #[.pointer (some ⟨bk, 0, none⟩)] w (Done m w bk R d) := by
 have HA := Aside0.mk h
 have HF := Aside0.mk (Fr.refl m w)
 clear h
 obtain ⟨w0, hw0⟩ : ∃ w0, w0 = w := ⟨_, rfl⟩
 have HW := Aside0.mk hw0
 rw [← hw0] at HA HF ⊢
 clear hw0
 go_enter Tryz.func75, Tryz.ntmps75
 have HC := Aside0.mk (mark_bytes HA.out)
 go_wp2_with (fail)
 refine HC.out.mono ?_
 clear HC HA
 rintro en w1 ⟨rfl, hf, s1, V1, X1, hal⟩
 have HA := Aside0.mk hal
 have HF := Aside0.mk (HF.out.then_ hf)
 clear hf hal
 have HC := Aside0.mk (mark_ints HA.out)
 go_wp2_with (fail)
 refine HC.out.mono ?_
 clear HC HA
 rintro en w2 ⟨rfl, hf, s2, V2, X2, hal⟩
 have HA := Aside0.mk hal
 have HF := Aside0.mk (HF.out.then_ hf)
 clear hf hal
 have HC := Aside0.mk (mark_bools bk _ (HA.out.nl 2 (by simp [live]) (by decide) 2 (by decide)) (HA.out.nl 2 (by simp [live]) (by decide) 3 (by decide)) (HA.out.nl 2 (by simp [live]) (by decide) 5 (by decide)) (HA.out.nl 2 (by simp [live]) (by decide) 6 (by decide)))
 go_wp2_with (fail)
 refine HC.out.mono ?_
 clear HC
 rintro en w3 ⟨rfl, rfl⟩
 have HC := Aside0.mk (mark_words HA.out)
 go_wp2_with (fail)
 refine HC.out.mono ?_
 clear HC HA
 rintro en w4 ⟨rfl, hf, s4, V4, X4, hal⟩
 have HA := Aside0.mk hal
 have HF := Aside0.mk (HF.out.then_ hf)
 clear hf hal
 have HC := Aside0.mk (mark_texts bk _ (HA.out.nl 4 (by simp [live]) (by decide) 2 (by decide)) (HA.out.nl 4 (by simp [live]) (by decide) 3 (by decide)) (HA.out.nl 4 (by simp [live]) (by decide) 5 (by decide)) (HA.out.nl 4 (by simp [live]) (by decide) 6 (by decide)))
 go_wp2_with (fail)
 refine HC.out.mono ?_
 clear HC
 rintro en w5 ⟨rfl, rfl⟩
 have HC := Aside0.mk (mark_moves bk _ (HA.out.nl 5 (by simp [live]) (by decide) 2 (by decide)) (HA.out.nl 5 (by simp [live]) (by decide) 3 (by decide)) (HA.out.nl 5 (by simp [live]) (by decide) 5 (by decide)) (HA.out.nl 5 (by simp [live]) (by decide) 6 (by decide)))
 go_wp2_with (fail)
 refine HC.out.mono ?_
 clear HC
 rintro en w6 ⟨rfl, rfl⟩
 have HC := Aside0.mk (mark_sites bk _ (HA.out.nl 6 (by simp [live]) (by decide) 2 (by decide)) (HA.out.nl 6 (by simp [live]) (by decide) 3 (by decide)) (HA.out.nl 6 (by simp [live]) (by decide) 5 (by decide)) (HA.out.nl 6 (by simp [live]) (by decide) 6 (by decide)))
 go_wp2_with (fail)
 refine HC.out.mono ?_
 clear HC
 rintro en w7 ⟨rfl, rfl⟩
 have HC := Aside0.mk (mark_growths bk _ (HA.out.nl 7 (by simp [live]) (by decide) 2 (by decide)) (HA.out.nl 7 (by simp [live]) (by decide) 3 (by decide)) (HA.out.nl 7 (by simp [live]) (by decide) 5 (by decide)) (HA.out.nl 7 (by simp [live]) (by decide) 6 (by decide)))
 go_wp2_with (fail)
 refine HC.out.mono ?_
 clear HC
 rintro en w8 ⟨rfl, rfl⟩
 have HC := Aside0.mk (mark_ops bk _ (HA.out.nl 8 (by simp [live]) (by decide) 2 (by decide)) (HA.out.nl 8 (by simp [live]) (by decide) 3 (by decide)) (HA.out.nl 8 (by simp [live]) (by decide) 5 (by decide)) (HA.out.nl 8 (by simp [live]) (by decide) 6 (by decide)))
 go_wp2_with (fail)
 refine HC.out.mono ?_
 clear HC
 rintro en w9 ⟨rfl, rfl⟩
 have HC := Aside0.mk (mark_intLists HA.out)
 go_wp2_with (fail)
 refine HC.out.mono ?_
 clear HC HA
 rintro en w10 ⟨rfl, hf, s10, V10, X10, hal⟩
 have HA := Aside0.mk hal
 have HF := Aside0.mk (HF.out.then_ hf)
 clear hf hal
 have HC := Aside0.mk (mark_wordLists bk _ (HA.out.nl 10 (by simp [live]) (by decide) 2 (by decide)) (HA.out.nl 10 (by simp [live]) (by decide) 3 (by decide)) (HA.out.nl 10 (by simp [live]) (by decide) 5 (by decide)) (HA.out.nl 10 (by simp [live]) (by decide) 6 (by decide)))
 go_wp2_with (fail)
 refine HC.out.mono ?_
 clear HC
 rintro en w11 ⟨rfl, rfl⟩
 have HC := Aside0.mk (mark_frames HA.out)
 go_wp2_with (fail)
 refine HC.out.mono ?_
 clear HC HA
 rintro en w12 ⟨rfl, hf, s12, V12, X12, hal⟩
 have HA := Aside0.mk hal
 have HF := Aside0.mk (HF.out.then_ hf)
 clear hf hal
 have HC := Aside0.mk (mark_objects HA.out)
 go_wp2_with (fail)
 refine HC.out.mono ?_
 clear HC HA
 rintro en w13 ⟨rfl, hf, s13, V13, X13, hal⟩
 have HA := Aside0.mk hal
 have HF := Aside0.mk (HF.out.then_ hf)
 clear hf hal
 go_wp2
 go_end0
 exact ⟨rfl, HF.out, _, _, _, HA.out⟩
set_option maxHeartbeats 4000000 in
set_option maxRecDepth 100000 in
theorem grows_any (h : All m w bk s V X R d) : Calls Tryz.prog 76 #[.pointer (some ⟨bk, 0, none⟩)] w (Done m w bk R d) := by
 have HA := Aside0.mk h
 have HF := Aside0.mk (Fr.refl m w)
 clear h
 obtain ⟨w0, hw0⟩ : ∃ w0, w0 = w := ⟨_, rfl⟩
 have HW := Aside0.mk hw0
 rw [← hw0] at HA HF ⊢
 clear hw0
 go_enter Tryz.func76, Tryz.ntmps76
 have HC := Aside0.mk (grow_bytes HA.out)
 go_wp2_with (fail)
 refine HC.out.mono ?_
 clear HC HA
 rintro en w1 ⟨rfl, hf, s1, V1, X1, hal⟩
 have HA := Aside0.mk hal
 have HF := Aside0.mk (HF.out.then_ hf)
 clear hf hal
 have HC := Aside0.mk (grow_ints HA.out)
 go_wp2_with (fail)
 refine HC.out.mono ?_
 clear HC HA
 rintro en w2 ⟨rfl, hf, s2, V2, X2, hal⟩
 have HA := Aside0.mk hal
 have HF := Aside0.mk (HF.out.then_ hf)
 clear hf hal
 have HC := Aside0.mk (grow_bools bk _ (HA.out.nl 2 (by simp [live]) (by decide) 4 (by decide)) (HA.out.nl 2 (by simp [live]) (by decide) 7 (by decide)) (HA.out.sh.frozen _) (HA.out.sh.frozen _))
 go_wp2_with (fail)
 refine HC.out.mono ?_
 clear HC
 rintro en w3 ⟨rfl, rfl⟩
 have HC := Aside0.mk (grow_words HA.out)
 go_wp2_with (fail)
 refine HC.out.mono ?_
 clear HC HA
 rintro en w4 ⟨rfl, hf, s4, V4, X4, hal⟩
 have HA := Aside0.mk hal
 have HF := Aside0.mk (HF.out.then_ hf)
 clear hf hal
 have HC := Aside0.mk (grow_texts bk _ (HA.out.nl 4 (by simp [live]) (by decide) 4 (by decide)) (HA.out.nl 4 (by simp [live]) (by decide) 7 (by decide)) (HA.out.sh.frozen _) (HA.out.sh.frozen _))
 go_wp2_with (fail)
 refine HC.out.mono ?_
 clear HC
 rintro en w5 ⟨rfl, rfl⟩
 have HC := Aside0.mk (grow_moves bk _ (HA.out.nl 5 (by simp [live]) (by decide) 4 (by decide)) (HA.out.nl 5 (by simp [live]) (by decide) 7 (by decide)) (HA.out.sh.frozen _) (HA.out.sh.frozen _))
 go_wp2_with (fail)
 refine HC.out.mono ?_
 clear HC
 rintro en w6 ⟨rfl, rfl⟩
 have HC := Aside0.mk (grow_sites bk _ (HA.out.nl 6 (by simp [live]) (by decide) 4 (by decide)) (HA.out.nl 6 (by simp [live]) (by decide) 7 (by decide)) (HA.out.sh.frozen _) (HA.out.sh.frozen _))
 go_wp2_with (fail)
 refine HC.out.mono ?_
 clear HC
 rintro en w7 ⟨rfl, rfl⟩
 have HC := Aside0.mk (grow_growths bk _ (HA.out.nl 7 (by simp [live]) (by decide) 4 (by decide)) (HA.out.nl 7 (by simp [live]) (by decide) 7 (by decide)) (HA.out.sh.frozen _) (HA.out.sh.frozen _))
 go_wp2_with (fail)
 refine HC.out.mono ?_
 clear HC
 rintro en w8 ⟨rfl, rfl⟩
 have HC := Aside0.mk (grow_ops bk _ (HA.out.nl 8 (by simp [live]) (by decide) 4 (by decide)) (HA.out.nl 8 (by simp [live]) (by decide) 7 (by decide)) (HA.out.sh.frozen _) (HA.out.sh.frozen _))
 go_wp2_with (fail)
 refine HC.out.mono ?_
 clear HC
 rintro en w9 ⟨rfl, rfl⟩
 have HC := Aside0.mk (grow_intLists HA.out)
 go_wp2_with (fail)
 refine HC.out.mono ?_
 clear HC HA
 rintro en w10 ⟨rfl, hf, s10, V10, X10, hal⟩
 have HA := Aside0.mk hal
 have HF := Aside0.mk (HF.out.then_ hf)
 clear hf hal
 have HC := Aside0.mk (grow_wordLists bk _ (HA.out.nl 10 (by simp [live]) (by decide) 4 (by decide)) (HA.out.nl 10 (by simp [live]) (by decide) 7 (by decide)) (HA.out.sh.frozen _) (HA.out.sh.frozen _))
 go_wp2_with (fail)
 refine HC.out.mono ?_
 clear HC
 rintro en w11 ⟨rfl, rfl⟩
 have HC := Aside0.mk (grow_frames HA.out)
 go_wp2_with (fail)
 refine HC.out.mono ?_
 clear HC HA
 rintro en w12 ⟨rfl, hf, s12, V12, X12, hal⟩
 have HA := Aside0.mk hal
 have HF := Aside0.mk (HF.out.then_ hf)
 clear hf hal
 have HC := Aside0.mk (grow_objects HA.out)
 go_wp2_with (fail)
 refine HC.out.mono ?_
 clear HC HA
 rintro en w13 ⟨rfl, hf, s13, V13, X13, hal⟩
 have HA := Aside0.mk hal
 have HF := Aside0.mk (HF.out.then_ hf)
 clear hf hal
 go_wp2
 go_end0
 exact ⟨rfl, HF.out, _, _, _, HA.out⟩
set_option maxHeartbeats 4000000 in
set_option maxRecDepth 100000 in
/-- done at the outermost call's end. -/
theorem done_top (h : All m w bk s V X R 1) : Calls Tryz.prog 34 #[.pointer (some ⟨bk, 0, none⟩)] w (Done m w bk R 0) := by
 have c3 := (h.sh.cell (j := 3) (by decide)).trans (by rw [h.v3])
 have f3 := h.sh.frozen 3
 have HA := Aside0.mk (h.deep 0)
 have HF := Aside0.mk (h.sh.frScal 3 (.int .i64 0))
 clear h
 go_enter Tryz.func34, Tryz.ntmps34
 go_upto_region 1 with (fail)
 refine img.wp_world (p := fun wx => Aside0 (All m wx bk s (upd V 3 (.int .i64 0)) X R 0) ∧ Aside0 (Fr m w wx)) ⟨HA, HF⟩ ?_
 clear HA HF c3 f3
 rintro w0 ⟨HA, HF⟩
 have c3 := (HA.out.sh.cell (j := 3) (by decide)).trans (by rw [HA.out.v3])
 have HC := Aside0.mk (marks_any HA.out)
 clear HA
 go_wp2_with (fail)
 refine HC.out.mono ?_
 clear HC c3
 rintro en w1 ⟨rfl, hf, s1, V1, X1, hal⟩
 have HC := Aside0.mk (grows_any hal)
 have HF := Aside0.mk (HF.out.then_ hf)
 clear hal hf
 go_wp2_with (fail)
 refine HC.out.mono ?_
 clear HC
 rintro en w2 ⟨rfl, hf, s2, V2, X2, hal⟩
 have HF := Aside0.mk (HF.out.then_ hf)
 have HA := Aside0.mk hal
 clear hal hf
 obtain ⟨t, ht⟩ := HA.out.v2
 have c2 := (HA.out.sh.cell (j := 2) (by decide)).trans (congrArg some ht)
 have f2 := HA.out.sh.frozen 2
 have HT := Aside0.mk (HA.out.turn (wrap64 (t + 1)))
 have HF3 := Aside0.mk (HF.out.then_ (HA.out.sh.frScal 2 (.int .i64 (wrap64 (t + 1)))))
 clear ht HA HF
 go_wp2
 go_end0
 exact ⟨rfl, HF3.out, _, _, _, HT.out⟩
set_option maxHeartbeats 4000000 in
set_option maxRecDepth 100000 in
theorem book_holds (h : All m w bk s V X R d) : Calls Tryz.prog 14 #[.pointer (some ⟨bk, 0, none⟩)] w fun e w' => e = .returned (.bool true) ∧ w.grownBy w' none := by
 have c1 := (h.sh.cell (j := 1) (by decide)).trans (congrArg some h.v1)
 have HA := Aside0.mk h
 have HG := Aside0.mk (grown_refl w none)
 clear h
 obtain ⟨w0, hw0⟩ : ∃ w0, w0 = w := ⟨_, rfl⟩
 have HW := Aside0.mk hw0
 rw [← hw0] at HA HG c1 ⊢
 clear hw0
 go_enter Tryz.func14, Tryz.ntmps14
 have HC := Aside0.mk (hold_bytes (Q1 .u8) (fun wx v u h => sg_bytes v u wx h) (fun _ _ _ _ h hg => Q1.grown h hg) bk _ (HA.out.hr (q := 0) (by simp [live]) (fun v u a b h => h.q0 HA.out.sh HA.out.ty)).1 (HA.out.hr (q := 0) (by simp [live]) (fun v u a b h => h.q0 HA.out.sh HA.out.ty)).2)
 go_wp2_with (fail)
 refine HC.out.mono ?_
 clear HC c1
 rintro en w1 ⟨rfl, hg⟩
 have HA := Aside0.mk (HA.out.still hg)
 have HG := Aside0.mk (HG.out.trans hg)
 clear hg
 have HC := Aside0.mk (hold_ints (Q1 .i64) (fun wx v u h => sg_ints v u wx h) (fun _ _ _ _ h hg => Q1.grown h hg) bk _ (HA.out.hr (q := 1) (by simp [live]) (fun v u a b h => h.q1 HA.out.sh HA.out.ty)).1 (HA.out.hr (q := 1) (by simp [live]) (fun v u a b h => h.q1 HA.out.sh HA.out.ty)).2)
 go_wp2_with (fail)
 refine HC.out.mono ?_
 clear HC
 rintro en w2 ⟨rfl, hg⟩
 have HA := Aside0.mk (HA.out.still hg)
 have HG := Aside0.mk (HG.out.trans hg)
 clear hg
 have HC := Aside0.mk (hold_bools bk _ (HA.out.nl 2 (by simp [live]) (by decide) 0 (by decide)) (HA.out.nl 2 (by simp [live]) (by decide) 2 (by decide)))
 go_wp2_with (fail)
 refine HC.out.mono ?_
 clear HC
 rintro en w3 ⟨rfl, rfl⟩
 have HC := Aside0.mk (hold_words (Q1 .u64) (fun wx v u h => sg_words v u wx h) (fun _ _ _ _ h hg => Q1.grown h hg) bk _ (HA.out.hr (q := 3) (by simp [live]) (fun v u a b h => h.q3 HA.out.sh HA.out.ty)).1 (HA.out.hr (q := 3) (by simp [live]) (fun v u a b h => h.q3 HA.out.sh HA.out.ty)).2)
 go_wp2_with (fail)
 refine HC.out.mono ?_
 clear HC
 rintro en w4 ⟨rfl, hg⟩
 have HA := Aside0.mk (HA.out.still hg)
 have HG := Aside0.mk (HG.out.trans hg)
 clear hg
 have HC := Aside0.mk (hold_texts bk _ (HA.out.nl 4 (by simp [live]) (by decide) 0 (by decide)) (HA.out.nl 4 (by simp [live]) (by decide) 2 (by decide)))
 go_wp2_with (fail)
 refine HC.out.mono ?_
 clear HC
 rintro en w5 ⟨rfl, rfl⟩
 have HC := Aside0.mk (hold_moves bk _ (HA.out.nl 5 (by simp [live]) (by decide) 0 (by decide)) (HA.out.nl 5 (by simp [live]) (by decide) 2 (by decide)))
 go_wp2_with (fail)
 refine HC.out.mono ?_
 clear HC
 rintro en w6 ⟨rfl, rfl⟩
 have HC := Aside0.mk (hold_sites bk _ (HA.out.nl 6 (by simp [live]) (by decide) 0 (by decide)) (HA.out.nl 6 (by simp [live]) (by decide) 2 (by decide)))
 go_wp2_with (fail)
 refine HC.out.mono ?_
 clear HC
 rintro en w7 ⟨rfl, rfl⟩
 have HC := Aside0.mk (hold_growths bk _ (HA.out.nl 7 (by simp [live]) (by decide) 0 (by decide)) (HA.out.nl 7 (by simp [live]) (by decide) 2 (by decide)))
 go_wp2_with (fail)
 refine HC.out.mono ?_
 clear HC
 rintro en w8 ⟨rfl, rfl⟩
 have HC := Aside0.mk (hold_ops bk _ (HA.out.nl 8 (by simp [live]) (by decide) 0 (by decide)) (HA.out.nl 8 (by simp [live]) (by decide) 2 (by decide)))
 go_wp2_with (fail)
 refine HC.out.mono ?_
 clear HC
 rintro en w9 ⟨rfl, rfl⟩
 have HC := Aside0.mk (hold_intLists (Q9 (Q1 .i64)) (fun wx v u h => sg_intLists v u wx h) (fun _ _ _ _ h hg => Q9.grown (fun _ _ _ _ h hg => h.grown hg) h hg) bk _ (HA.out.hr (q := 9) (by simp [live]) (fun v u a b h => h.q9 HA.out.sh HA.out.ty)).1 (HA.out.hr (q := 9) (by simp [live]) (fun v u a b h => h.q9 HA.out.sh HA.out.ty)).2)
 go_wp2_with (fail)
 refine HC.out.mono ?_
 clear HC
 rintro en w10 ⟨rfl, hg⟩
 have HA := Aside0.mk (HA.out.still hg)
 have HG := Aside0.mk (HG.out.trans hg)
 clear hg
 have HC := Aside0.mk (hold_wordLists bk _ (HA.out.nl 10 (by simp [live]) (by decide) 0 (by decide)) (HA.out.nl 10 (by simp [live]) (by decide) 2 (by decide)))
 go_wp2_with (fail)
 refine HC.out.mono ?_
 clear HC
 rintro en w11 ⟨rfl, rfl⟩
 have HC := Aside0.mk (hold_frames (Q9 (Q9 (Q1 .i64))) (fun wx v u h => sg_frames v u wx h) (fun _ _ _ _ h hg => Q9.grown (P := Q9 (Q1 .i64)) (fun _ _ _ _ h hg => Q9.grown (P := Q1 .i64) (fun _ _ _ _ h hg => Q1.grown h hg) h hg) h hg) bk _ (HA.out.hr (q := 11) (by simp [live]) (fun v u a b h => h.q11 HA.out.sh HA.out.ty)).1 (HA.out.hr (q := 11) (by simp [live]) (fun v u a b h => h.q11 HA.out.sh HA.out.ty)).2)
 go_wp2_with (fail)
 refine HC.out.mono ?_
 clear HC
 rintro en w12 ⟨rfl, hg⟩
 have HA := Aside0.mk (HA.out.still hg)
 have HG := Aside0.mk (HG.out.trans hg)
 clear hg
 have HC := Aside0.mk (hold_objects (Q12) (fun wx v u h => sg_objects v u wx h) (fun _ _ _ _ h hg => h.grown hg) bk _ (HA.out.hr (q := 12) (by simp [live]) (fun v u a b h => h.q12 HA.out.sh HA.out.ty)).1 (HA.out.hr (q := 12) (by simp [live]) (fun v u a b h => h.q12 HA.out.sh HA.out.ty)).2)
 go_wp2_with (fail)
 refine HC.out.mono ?_
 clear HC
 rintro en w13 ⟨rfl, hg⟩
 have HA := Aside0.mk (HA.out.still hg)
 have HG := Aside0.mk (HG.out.trans hg)
 clear hg
 go_wp2
 go_ret
 exact ⟨rfl, HG.out⟩
end
end Go.Proofs.YtihjjkoddphmiaaGreatDoor.bk
