/-
  The walks of the room's hold functions over lists of lists, and of Hold.
-/
import Derived.Test.YtihjjkoddphmiaaDoorMRmHold
namespace Go.Proofs.YtihjjkoddphmiaaDoor.img
open Go.RowKit Go.Proofs.YtihjjkoddphmiaaDoorW.PrintWords Go.Proofs.YtihjjkoddphmiaaDoorW.PrintLast Go.Proofs.YtihjjkoddphmiaaDoorW.PrintMore Go.Proofs.YtihjjkoddphmiaaDoor.PImageRound
set_option linter.unusedVariables false
set_option linter.unusedSimpArgs false

set_option maxHeartbeats 8000000 in
set_option maxRecDepth 100000 in
theorem holdIntLists_any (base r K : Nat) (C : Array Value) (ρ : Nat → Role) (w : World) (hRm : Rm w ρ base r C K) (hK : K ≤ 4000000000000) :
  Calls Tryd.prog 41 #[.pointer (some ⟨r, 0, none⟩)] w fun e w' => e = .returned (.bool true) ∧ Below w.heap.size w w' := by
 obtain ⟨W, hW⟩ : ∃ W, W = ((w.alloc (.cells #[.int .i64 (-7701)] 3)).alloc (.cells #[.int .i64 (-7702)] 3)).alloc (.cells #[.slice (some ⟨w.heap.size, 0, none⟩) 1 1, .slice (some ⟨w.heap.size + 1, 0, none⟩) 1 1] 24) := ⟨_, rfl⟩
 have at_ : ∀ (W : World) (o : Obj) (n : Nat), W.heap.size = n → (W.alloc o).heap[n]? = some o := fun W o n h => by subst h; exact heap_alloc_new W o
 have hb : Below w.heap.size w W := by rw [hW]; exact below_alloc (below_alloc (below_alloc (Below.refl _ _) _) _) _
 have hm0 : W.cell? ⟨w.heap.size, 0, none⟩ = some (.int .i64 (-7701)) := by rw [hW, blk_cell (blk_alloc (blk_alloc (heap_alloc_new w _) _) _)]; rfl
 have hm1 : W.cell? ⟨w.heap.size + 1, 0, none⟩ = some (.int .i64 (-7702)) := by rw [hW, blk_cell (blk_alloc (at_ _ _ (w.heap.size + 1) (by simp)) _)]; rfl
 have hm2 : W.cell? ⟨w.heap.size + 1 + 1, 0, none⟩ = some (.slice (some ⟨w.heap.size, 0, none⟩) 1 1) := by rw [hW, blk_cell (at_ _ _ (w.heap.size + 1 + 1) (by simp))]; rfl
 have hm3 : W.cell? ⟨w.heap.size + 1 + 1, 1, none⟩ = some (.slice (some ⟨w.heap.size + 1, 0, none⟩) 1 1) := by rw [hW, blk_cell (at_ _ _ (w.heap.size + 1 + 1) (by simp))]; rfl
 obtain ⟨H, cap, cnt, hc, hl, hv⟩ := (hRm.below hb).field fl5
 have HV := Aside0.mk hv
 have HC := Aside0.mk hc
 have HB := Aside0.mk hb
 have HM0 := Aside0.mk hm0
 have HM1 := Aside0.mk hm1
 have HM2 := Aside0.mk hm2
 have HM3 := Aside0.mk hm3
 clear hRm hv hb hc hm0 hm1 hm2 hm3 at_
 have HW := Aside0.mk hW
 clear hW
 go_enter Tryd.func41, Tryd.ntmps41
 go_wp2
 rw [← HW.out]
 go_loopw [4] (fun i wr => ∃ k : Nat, k ≤ cnt ∧ i = .int .i64 k ∧ Aside0 (Below W.heap.size W wr)) (fun i _ => cnt - (intOf i).toNat)
 case atStart => exact ⟨0, Nat.zero_le _, rfl, ⟨Below.refl _ _⟩⟩
 case round =>
  obtain ⟨k, hk, rfl, HX⟩ := hrel
  have hc := pw_cell_below HX.out HC.out
  by_cases hlt : k < cnt
  ·obtain ⟨hbk, u, rfl, hu, f, n, c, rfl, hn, hn2, hnc, hmk⟩ := HV.out k hlt
   replace hu := pw_cell_below HX.out hu
   obtain ⟨q, rfl⟩ : ∃ q, n = q + 8 := ⟨n - 8, by omega⟩
   have HM : Aside0 (∀ j : Nat, j < 8 → ∃ p c', W.cell? ⟨f, q + j, none⟩ = some (.slice (some ⟨p, 0, none⟩) 1 c') ∧ W.cell? ⟨p, 0, none⟩ = some (.int .i64 (mk (-7701) j))) := ⟨fun j hj => by
    obtain ⟨p, c', h1, -, h2⟩ := hmk j hj
    have := h1.1
    rw [show q + 8 - 8 + j = q + j by omega] at this
    exact ⟨p, c', this, h2.1⟩⟩
   clear hmk
   have HU := Aside0.mk hu
   go_wp2_with (fail)
   have HX2 := Aside0.mk (Below.refl wr.heap.size wr)
   go_loopw [6] (fun i w2 => ∃ j : Nat, j ≤ 8 ∧ i = .int .i64 j ∧ Aside0 (Below wr.heap.size wr w2)) (fun i _ => 8 - (intOf i).toNat)
   case atStart => exact ⟨0, by omega, rfl, HX2⟩
   case round =>
    clear HX2
    rename_i w2
    obtain ⟨j, hj, rfl, HX2⟩ := hrel
    have HB2 := Aside0.mk (below_step HX.out HX2.out)
    replace hc := pw_cell_below HX2.out hc
    replace hu := pw_cell_below HX2.out hu
    by_cases hlj : j < 8
    ·obtain ⟨p, c', hcm, hcp⟩ := HM.out j hlj
     replace hcm := pw_cell_below HB2.out hcm
     replace hcp := pw_cell_below HB2.out hcp
     have hm0 := pw_cell_below HB2.out HM0.out
     have hm1 := pw_cell_below HB2.out HM1.out
     have hm2 := pw_cell_below HB2.out HM2.out
     have hm3 := pw_cell_below HB2.out HM3.out
     have q1 : (0 : Int) ≤ (q : Int) + (j : Int) := by omega
     have q2 : (q : Int) + (j : Int) < (q : Int) + 8 := by omega
     have q3 : ((q : Int) + (j : Int)).toNat = q + j := by omega
     by_cases hp : j % 2 = 0
     ·have hp2 : (j : Int) % 2 = 0 := by omega
      unfold mk at hcp
      rw [if_pos hp] at hcp
      clear hp
      go_wp2_with (fail)
      go_quiet (fail)
      go_wp2_with (fail)
      go_roundw
      case rel => exact ⟨j + 1, by omega, by go_num, ⟨pw_below_drewN HX2.out _⟩⟩
      case measure => simp [intOf]; omega
     ·have hp2 : (j : Int) % 2 = 1 := by omega
      unfold mk at hcp
      rw [if_neg hp] at hcp
      clear hp
      go_wp2_with (fail)
      go_quiet (fail)
      go_wp2_with (fail)
      go_roundw
      case rel => exact ⟨j + 1, by omega, by go_num, ⟨pw_below_drewN HX2.out _⟩⟩
      case measure => simp [intOf]; omega
    ·go_wp2_with (fail)
     go_roundw
     case rel => exact ⟨k + 1, by omega, by go_num, ⟨below_step HX.out HX2.out⟩⟩
     case measure => simp [intOf]; omega
  ·go_wp2_with (fail)
   go_ret
   exact ⟨rfl, below_step HB.out HX.out⟩
set_option maxHeartbeats 8000000 in
set_option maxRecDepth 100000 in
theorem holdFrames_any (base r K : Nat) (C : Array Value) (ρ : Nat → Role) (w : World) (hRm : Rm w ρ base r C K) (hK : K ≤ 4000000000000) :
  Calls Tryd.prog 42 #[.pointer (some ⟨r, 0, none⟩)] w fun e w' => e = .returned (.bool true) ∧ Below w.heap.size w w' := by
 obtain ⟨W, hW⟩ : ∃ W, W = (four w).alloc (.cells #[.slice (some ⟨w.heap.size + 1, 0, none⟩) 1 1, .slice (some ⟨w.heap.size + 1 + 1 + 1, 0, none⟩) 1 1] 31) := ⟨_, rfl⟩
 have at_ : ∀ (W : World) (o : Obj) (n : Nat), W.heap.size = n → (W.alloc o).heap[n]? = some o := fun W o n h => by subst h; exact heap_alloc_new W o
 obtain ⟨hsz, b0, b1, b2, b3, hb0⟩ := four_at w
 have hb : Below w.heap.size w W := by rw [hW]; exact below_alloc hb0 _
 have hm0 : W.cell? ⟨w.heap.size, 0, none⟩ = some (.int .i64 (-7701)) := by rw [hW, blk_cell (blk_alloc b0 _)]; rfl
 have hn0 : W.cell? ⟨w.heap.size + 1, 0, none⟩ = some (.slice (some ⟨w.heap.size, 0, none⟩) 1 1) := by rw [hW, blk_cell (blk_alloc b1 _)]; rfl
 have hm1 : W.cell? ⟨w.heap.size + 1 + 1, 0, none⟩ = some (.int .i64 (-7702)) := by rw [hW, blk_cell (blk_alloc b2 _)]; rfl
 have hn1 : W.cell? ⟨w.heap.size + 1 + 1 + 1, 0, none⟩ = some (.slice (some ⟨w.heap.size + 1 + 1, 0, none⟩) 1 1) := by rw [hW, blk_cell (blk_alloc b3 _)]; rfl
 have hm2 : W.cell? ⟨w.heap.size + 1 + 1 + 1 + 1, 0, none⟩ = some (.slice (some ⟨w.heap.size + 1, 0, none⟩) 1 1) := by rw [hW, blk_cell (at_ _ _ (w.heap.size + 1 + 1 + 1 + 1) (by rw [hsz]))]; rfl
 have hm3 : W.cell? ⟨w.heap.size + 1 + 1 + 1 + 1, 1, none⟩ = some (.slice (some ⟨w.heap.size + 1 + 1 + 1, 0, none⟩) 1 1) := by rw [hW, blk_cell (at_ _ _ (w.heap.size + 1 + 1 + 1 + 1) (by rw [hsz]))]; rfl
 have HN0 := Aside0.mk hn0
 have HN1 := Aside0.mk hn1
 clear b0 b1 b2 b3 hb0 hn0 hn1 hsz
 obtain ⟨H, cap, cnt, hc, hl, hv⟩ := (hRm.below hb).field fl6
 have HV := Aside0.mk hv
 have HC := Aside0.mk hc
 have HB := Aside0.mk hb
 have HM0 := Aside0.mk hm0
 have HM1 := Aside0.mk hm1
 have HM2 := Aside0.mk hm2
 have HM3 := Aside0.mk hm3
 clear hRm hv hb hc hm0 hm1 hm2 hm3 at_
 have HW := Aside0.mk hW
 clear hW
 go_enter Tryd.func42, Tryd.ntmps42
 go_wp2
 rw [← HW.out]
 go_loopw [4] (fun i wr => ∃ k : Nat, k ≤ cnt ∧ i = .int .i64 k ∧ Aside0 (Below W.heap.size W wr)) (fun i _ => cnt - (intOf i).toNat)
 case atStart => exact ⟨0, Nat.zero_le _, rfl, ⟨Below.refl _ _⟩⟩
 case round =>
  obtain ⟨k, hk, rfl, HX⟩ := hrel
  have hc := pw_cell_below HX.out HC.out
  by_cases hlt : k < cnt
  ·obtain ⟨hbk, u, rfl, hu, f, n, c, rfl, hn, hn2, hnc, hmk⟩ := HV.out k hlt
   replace hu := pw_cell_below HX.out hu
   obtain ⟨q, rfl⟩ : ∃ q, n = q + 8 := ⟨n - 8, by omega⟩
   have HM : Aside0 (∀ j : Nat, j < 8 → ∃ p c' y c'', W.cell? ⟨f, q + j, none⟩ = some (.slice (some ⟨p, 0, none⟩) 1 c') ∧ W.cell? ⟨p, 0, none⟩ = some (.slice (some ⟨y, 0, none⟩) 1 c'') ∧ W.cell? ⟨y, 0, none⟩ = some (.int .i64 (mk (-7701) j))) := ⟨fun j hj => by
    obtain ⟨p, c', y, c'', h1, -, h2, -, h3⟩ := hmk j hj
    have := h1.1
    rw [show q + 8 - 8 + j = q + j by omega] at this
    exact ⟨p, c', y, c'', this, h2.1, h3.1⟩⟩
   clear hmk
   have HU := Aside0.mk hu
   go_wp2_with (fail)
   have HX2 := Aside0.mk (Below.refl wr.heap.size wr)
   go_loopw [6] (fun i w2 => ∃ j : Nat, j ≤ 8 ∧ i = .int .i64 j ∧ Aside0 (Below wr.heap.size wr w2)) (fun i _ => 8 - (intOf i).toNat)
   case atStart => exact ⟨0, by omega, rfl, HX2⟩
   case round =>
    clear HX2
    rename_i w2
    obtain ⟨j, hj, rfl, HX2⟩ := hrel
    have HB2 := Aside0.mk (below_step HX.out HX2.out)
    replace hc := pw_cell_below HX2.out hc
    replace hu := pw_cell_below HX2.out hu
    by_cases hlj : j < 8
    ·obtain ⟨p, c', y, c'', hcm, hcy, hcp⟩ := HM.out j hlj
     replace hcy := pw_cell_below HB2.out hcy
     have hn0 := pw_cell_below HB2.out HN0.out
     have hn1 := pw_cell_below HB2.out HN1.out
     replace hcm := pw_cell_below HB2.out hcm
     replace hcp := pw_cell_below HB2.out hcp
     have hm0 := pw_cell_below HB2.out HM0.out
     have hm1 := pw_cell_below HB2.out HM1.out
     have hm2 := pw_cell_below HB2.out HM2.out
     have hm3 := pw_cell_below HB2.out HM3.out
     have q1 : (0 : Int) ≤ (q : Int) + (j : Int) := by omega
     have q2 : (q : Int) + (j : Int) < (q : Int) + 8 := by omega
     have q3 : ((q : Int) + (j : Int)).toNat = q + j := by omega
     by_cases hp : j % 2 = 0
     ·have hp2 : (j : Int) % 2 = 0 := by omega
      unfold mk at hcp
      rw [if_pos hp] at hcp
      clear hp
      go_wp2_with (fail)
      go_quiet (fail)
      go_wp2_with (fail)
      go_roundw
      case rel => exact ⟨j + 1, by omega, by go_num, ⟨pw_below_drewN HX2.out _⟩⟩
      case measure => simp [intOf]; omega
     ·have hp2 : (j : Int) % 2 = 1 := by omega
      unfold mk at hcp
      rw [if_neg hp] at hcp
      clear hp
      go_wp2_with (fail)
      go_quiet (fail)
      go_wp2_with (fail)
      go_roundw
      case rel => exact ⟨j + 1, by omega, by go_num, ⟨pw_below_drewN HX2.out _⟩⟩
      case measure => simp [intOf]; omega
    ·go_wp2_with (fail)
     go_roundw
     case rel => exact ⟨k + 1, by omega, by go_num, ⟨below_step HX.out HX2.out⟩⟩
     case measure => simp [intOf]; omega
  ·go_wp2_with (fail)
   go_ret
   exact ⟨rfl, below_step HB.out HX.out⟩

set_option maxHeartbeats 8000000 in
set_option maxRecDepth 100000 in
theorem holdObjects_any (base r K : Nat) (C : Array Value) (ρ : Nat → Role) (w : World) (hRm : Rm w ρ base r C K) (hK : K ≤ 4000000000000) :
  Calls Tryd.prog 43 #[.pointer (some ⟨r, 0, none⟩)] w fun e w' => e = .returned (.bool true) ∧ Below w.heap.size w w' := by
 obtain ⟨W, hW⟩ : ∃ W, W = w.alloc (.cells #[.int .u64 0, .int .i64 (-7701), .int .i64 0, .slice none 0 0, .slice none 0 0, .int .u64 0, .int .i64 (-7702), .int .i64 0, .slice none 0 0, .slice none 0 0] 62) := ⟨_, rfl⟩
 have hb : Below w.heap.size w W := by rw [hW]; exact below_alloc (Below.refl _ _) _
 have HK : Aside0 (W.heap[w.heap.size]? = some (.cells #[.int .u64 0, .int .i64 (-7701), .int .i64 0, .slice none 0 0, .slice none 0 0, .int .u64 0, .int .i64 (-7702), .int .i64 0, .slice none 0 0, .slice none 0 0] 62 (0, 0))) := ⟨by rw [hW]; exact heap_alloc_new w _⟩
 obtain ⟨H, cap, cnt, hc, hl, hv⟩ := (hRm.below hb).field fl7
 have HV := Aside0.mk hv
 have HC := Aside0.mk hc
 have HB := Aside0.mk hb
 clear hRm hv hb hc
 have HW := Aside0.mk hW
 clear hW
 go_enter Tryd.func43, Tryd.ntmps43
 go_wp2
 rw [← HW.out]
 go_loopw [4] (fun i wr => ∃ k : Nat, k ≤ cnt ∧ i = .int .i64 k ∧ Aside0 (Below W.heap.size W wr)) (fun i _ => cnt - (intOf i).toNat)
 case atStart => exact ⟨0, Nat.zero_le _, rfl, ⟨Below.refl _ _⟩⟩
 case round =>
  obtain ⟨k, hk, rfl, HX⟩ := hrel
  have hc := pw_cell_below HX.out HC.out
  by_cases hlt : k < cnt
  ·obtain ⟨hbk, u, rfl, hu, f, n, c, rfl, hn, hn2, hnc, hmk⟩ := HV.out k hlt
   replace hu := pw_cell_below HX.out hu
   obtain ⟨q, rfl⟩ : ∃ q, n = q + 8 := ⟨n - 8, by omega⟩
   have HM : Aside0 (∀ j : Nat, j < 8 → ∀ i x, (markO j)[i]? = some x → W.cell? ⟨f, (q + j) * 5 + i, none⟩ = some x) := ⟨fun j hj i x hx => by
    have := (hmk j hj i x hx).1
    rwa [show q + 8 - 8 + j = q + j by omega] at this⟩
   clear hmk
   go_wp2_with (fail)
   have HX2 := Aside0.mk (Below.refl wr.heap.size wr)
   go_loopw [6] (fun i w2 => ∃ j : Nat, j ≤ 8 ∧ i = .int .i64 j ∧ Aside0 (Below wr.heap.size wr w2)) (fun i _ => 8 - (intOf i).toNat)
   case atStart => exact ⟨0, by omega, rfl, HX2⟩
   case round =>
    clear HX2

    obtain ⟨j, hj, rfl, HX2⟩ := hrel
    have HB2 := Aside0.mk (below_step HX.out HX2.out)
    replace hc := pw_cell_below HX2.out hc
    replace hu := pw_cell_below HX2.out hu
    by_cases hlj : j < 8
    ·have hc0 : wr.cell? ⟨f, (q + j) * 5, none⟩ = some (.int .u64 0) := pw_cell_below HB2.out (HM.out j hlj 0 _ rfl)
     have hc1 := pw_cell_below HB2.out (HM.out j hlj 1 _ rfl)
     have hc2 := pw_cell_below HB2.out (HM.out j hlj 2 _ rfl)
     have hc3 := pw_cell_below HB2.out (HM.out j hlj 3 _ rfl)
     have hc4 := pw_cell_below HB2.out (HM.out j hlj 4 _ rfl)
     have HK2 := Aside0.mk (blk_below HK.out HB2.out)
     have hsz : w.heap.size < wr.heap.size := blk_lt HK2.out
     have q1 : (0 : Int) ≤ (q : Int) + (j : Int) := by omega
     have q2 : (q : Int) + (j : Int) < (q : Int) + 8 := by omega
     have q3 : ((q : Int) + (j : Int)).toNat = q + j := by omega
     have hfl : f < wr.heap.size := World.block_lt_of_cell? wr ⟨f, _, none⟩ hc0
     by_cases hp : j % 2 = 0
     ·have hp2 : (j : Int) % 2 = 0 := by omega
      unfold mk at hc1
      rw [if_pos hp] at hc1
      clear hp
      have hm0 := (blk_cell HK2.out 0).trans rfl
      have hm1 := (blk_cell HK2.out 1).trans rfl
      have hm2 := (blk_cell HK2.out 2).trans rfl
      have hm3 := (blk_cell HK2.out 3).trans rfl
      have hm4 := (blk_cell HK2.out 4).trans rfl
      go_wp2_with (fail)
      go_roundw
      case rel => exact ⟨j + 1, by omega, by go_num, ⟨below_alloc (below_alloc HX2.out _) _⟩⟩
      case measure => simp [intOf]; omega
     ·have hp2 : (j : Int) % 2 = 1 := by omega
      unfold mk at hc1
      rw [if_neg hp] at hc1
      clear hp
      have hm0 := (blk_cell HK2.out 5).trans rfl
      have hm1 := (blk_cell HK2.out 6).trans rfl
      have hm2 := (blk_cell HK2.out 7).trans rfl
      have hm3 := (blk_cell HK2.out 8).trans rfl
      have hm4 := (blk_cell HK2.out 9).trans rfl
      go_wp2_with (fail)
      go_roundw
      case rel => exact ⟨j + 1, by omega, by go_num, ⟨below_alloc (below_alloc HX2.out _) _⟩⟩
      case measure => simp [intOf]; omega
    ·go_wp2_with (fail)
     go_roundw
     case rel => exact ⟨k + 1, by omega, by go_num, ⟨below_step HX.out HX2.out⟩⟩
     case measure => simp [intOf]; omega
  ·go_wp2_with (fail)
   go_ret
   exact ⟨rfl, below_step HB.out HX.out⟩

set_option maxHeartbeats 8000000 in
set_option maxRecDepth 100000 in
/-- Hold: no mark is written over. -/
theorem Hold_any (base r K : Nat) (C : Array Value) (ρ : Nat → Role) (w : World) (hRm : Rm w ρ base r C K) (hK : K ≤ 4000000000000) :
  Calls Tryd.prog 15 #[.pointer (some ⟨r, 0, none⟩)] w fun e w' => e = .returned (.bool true) ∧ Below w.heap.size w w' := by
 have HR := Aside0.mk hRm
 have HB0 := Aside0.mk (Below.refl w.heap.size w)
 have H0 := Aside0.mk (fun (wx : World) (hb : Below w.heap.size w wx) => holdBytes_any base r K C ρ wx (HR.out.below hb) hK)
 have H1 := Aside0.mk (fun (wx : World) (hb : Below w.heap.size w wx) => holdInts_any base r K C ρ wx (HR.out.below hb) hK)
 have H2 := Aside0.mk (fun (wx : World) (hb : Below w.heap.size w wx) => holdWords_any base r K C ρ wx (HR.out.below hb) hK)
 have H3 := Aside0.mk (fun (wx : World) (hb : Below w.heap.size w wx) => holdTexts_any base r K C ρ wx (HR.out.below hb))
 have H4 := Aside0.mk (fun (wx : World) (hb : Below w.heap.size w wx) => holdOps_any base r K C ρ wx (HR.out.below hb))
 have H5 := Aside0.mk (fun (wx : World) (hb : Below w.heap.size w wx) => holdIntLists_any base r K C ρ wx (HR.out.below hb) hK)
 have H6 := Aside0.mk (fun (wx : World) (hb : Below w.heap.size w wx) => holdFrames_any base r K C ρ wx (HR.out.below hb) hK)
 have H7 := Aside0.mk (fun (wx : World) (hb : Below w.heap.size w wx) => holdObjects_any base r K C ρ wx (HR.out.below hb) hK)
 clear hRm
 go_enter Tryd.func15, Tryd.ntmps15
 go_wp2_with (fail)
 refine (H0.out _ HB0.out).mono ?_
 rintro en w1 ⟨rfl, hb1⟩
 have HB1 := Aside0.mk (below_step HB0.out hb1)
 clear hb1 HB0
 go_wp2_with (fail)
 refine (H1.out _ HB1.out).mono ?_
 rintro en w2 ⟨rfl, hb2⟩
 have HB2 := Aside0.mk (below_step HB1.out hb2)
 clear hb2 HB1
 go_wp2_with (fail)
 refine (H2.out _ HB2.out).mono ?_
 rintro en w3 ⟨rfl, hb3⟩
 have HB3 := Aside0.mk (below_step HB2.out hb3)
 clear hb3 HB2
 go_wp2_with (fail)
 refine (H3.out _ HB3.out).mono ?_
 rintro en w4 ⟨rfl, hb4⟩
 have HB4 := Aside0.mk (below_step HB3.out hb4)
 clear hb4 HB3
 go_wp2_with (fail)
 refine (H4.out _ HB4.out).mono ?_
 rintro en w5 ⟨rfl, hb5⟩
 have HB5 := Aside0.mk (below_step HB4.out hb5)
 clear hb5 HB4
 go_wp2_with (fail)
 refine (H5.out _ HB5.out).mono ?_
 rintro en w6 ⟨rfl, hb6⟩
 have HB6 := Aside0.mk (below_step HB5.out hb6)
 clear hb6 HB5
 go_wp2_with (fail)
 refine (H6.out _ HB6.out).mono ?_
 rintro en w7 ⟨rfl, hb7⟩
 have HB7 := Aside0.mk (below_step HB6.out hb7)
 clear hb7 HB6
 go_wp2_with (fail)
 refine (H7.out _ HB7.out).mono ?_
 rintro en w8 ⟨rfl, hb8⟩
 have HB8 := Aside0.mk (below_step HB7.out hb8)
 clear hb8 HB7
 go_wp2_with (fail)
 go_ret
 exact ⟨rfl, HB8.out⟩
end Go.Proofs.YtihjjkoddphmiaaDoor.img
