/-
  The walks of the room's hold functions: no mark is written over.
-/
import Derived.Test.YtihjjkoddphmiaaDoorMRmInts
import Derived.Deep.RegionHeld3
import Derived.Laws.Rows
import Derived.Laws.CopyRow
namespace Go.Proofs.YtihjjkoddphmiaaDoor.img
open Go.RowKit Go.Proofs.YtihjjkoddphmiaaDoorW.PrintWords Go.Proofs.YtihjjkoddphmiaaDoorW.PrintLast Go.Proofs.YtihjjkoddphmiaaDoorW.PrintMore Go.Proofs.YtihjjkoddphmiaaDoor.PImageRound
set_option linter.unusedVariables false
set_option linter.unusedSimpArgs false

/-- A block that serves for nothing in particular is written, or a new one. -/
theorem Rm.grown {w w1 : World} {ρ : Nat → Role} {base r K : Nat} {C : Array Value} (h : Rm w ρ base r C K) {row : Option Nat} (hg : w.grownBy w1 row) (hr : ∀ k, row = some k → ρ k = .work) : Rm w1 ρ base r C K := by
 have hn : ∀ k, ρ k ≠ .work → some k ≠ row := fun k hk e => hk (hr k e.symm)
 refine ⟨blk_grown h.blk hg (hn r (by rw [h.own]; intro e; cases e)), h.low, h.own, h.fresh.size hg.size, h.sz, h.f3, h.f4, h.fixed, fun x hx => (h.fld x hx).step (flds_stays hx) rfl (fun k ⟨_, hk⟩ ho => hg.block k (blk_lt hk) (hn k (by rw [ho]; intro e; cases e))) (fun _ _ h => h) ?_⟩
 rintro f j v ⟨hv, m, hm, hj⟩
 exact ⟨hg.cell hv (hn f (by rw [hm]; intro e; cases e)), m, hm, hj⟩
/-- What is said of an element's cells; of a mark's. -/
abbrev Ec (α : Type) := World → (Nat → Role) → α → List Value → Prop
section
variable {α : Type} {E : Ec α} {Q : Ec Nat} {w wr w1 w2 W : World} {ρ ρr ρ2 : Nat → Role} {base r e sz m K K2 : Nat} {xs : List α} {x : α} {v v1 u : Value} {C C2 : Array Value} {vals ms us us' : List Value}
end
end Go.Proofs.YtihjjkoddphmiaaDoor.img
namespace Go.Proofs.YtihjjkoddphmiaaDoor.img
open Go.RowKit Go.Proofs.YtihjjkoddphmiaaDoorW.PrintWords Go.Proofs.YtihjjkoddphmiaaDoorW.PrintLast Go.Proofs.YtihjjkoddphmiaaDoorW.PrintMore Go.Proofs.YtihjjkoddphmiaaDoor.PImageRound
set_option linter.unusedVariables false
set_option linter.unusedSimpArgs false

theorem fl5 : ((5, 31, MLists) : Nat × Nat × Mk) ∈ flds := .tail _ (.tail _ (.tail _ (.head _)))
theorem fl6 : ((6, 23, MFrames) : Nat × Nat × Mk) ∈ flds := .tail _ (.tail _ (.tail _ (.tail _ (.head _))))
/-- Four blocks: two lists of a list of a number. -/
abbrev four (wr : World) : World := (((wr.alloc (.cells #[.int .i64 (-7701)] 3)).alloc (.cells #[.slice (some ⟨wr.heap.size, 0, none⟩) 1 1] 24)).alloc (.cells #[.int .i64 (-7702)] 3)).alloc (.cells #[.slice (some ⟨wr.heap.size + 1 + 1, 0, none⟩) 1 1] 24)
theorem four_at (wr : World) : (four wr).heap.size = wr.heap.size + 4 ∧ (four wr).heap[wr.heap.size]? = some (.cells #[.int .i64 (-7701)] 3 (0, 0)) ∧ (four wr).heap[wr.heap.size + 1]? = some (.cells #[.slice (some ⟨wr.heap.size, 0, none⟩) 1 1] 24 (0, 0)) ∧
  (four wr).heap[wr.heap.size + 2]? = some (.cells #[.int .i64 (-7702)] 3 (0, 0)) ∧ (four wr).heap[wr.heap.size + 3]? = some (.cells #[.slice (some ⟨wr.heap.size + 1 + 1, 0, none⟩) 1 1] 24 (0, 0)) ∧ Below wr.heap.size wr (four wr) := by
 have at_ : ∀ (W : World) (o : Obj) (n : Nat), W.heap.size = n → (W.alloc o).heap[n]? = some o := fun W o n h => by subst h; exact heap_alloc_new W o
 refine ⟨by simp, ?_, ?_, ?_, ?_, ?_⟩
 ·exact blk_alloc (blk_alloc (blk_alloc (heap_alloc_new wr _) _) _) _
 ·exact blk_alloc (blk_alloc (at_ _ _ _ (by simp)) _) _
 ·exact blk_alloc (at_ _ _ _ (by simp)) _
 ·exact at_ _ _ _ (by simp)
 ·exact below_alloc (below_alloc (below_alloc (below_alloc (Below.refl _ _) _) _) _) _
end Go.Proofs.YtihjjkoddphmiaaDoor.img
namespace Go.Proofs.YtihjjkoddphmiaaDoor.img
open Go.RowKit Go.Proofs.YtihjjkoddphmiaaDoorW.PrintWords Go.Proofs.YtihjjkoddphmiaaDoorW.PrintLast Go.Proofs.YtihjjkoddphmiaaDoorW.PrintMore Go.Proofs.YtihjjkoddphmiaaDoor.PImageRound
set_option linter.unusedVariables false
set_option linter.unusedSimpArgs false

theorem fl7 : ((7, 22, MObjs) : Nat × Nat × Mk) ∈ flds := .tail _ (.tail _ (.tail _ (.tail _ (.tail _ (.head _)))))
end Go.Proofs.YtihjjkoddphmiaaDoor.img
namespace Go.Proofs.YtihjjkoddphmiaaDoor.img
open Go.RowKit Go.Proofs.YtihjjkoddphmiaaDoorW.PrintWords Go.Proofs.YtihjjkoddphmiaaDoorW.PrintLast Go.Proofs.YtihjjkoddphmiaaDoorW.PrintMore Go.Proofs.YtihjjkoddphmiaaDoor.PImageRound
set_option linter.unusedVariables false
set_option linter.unusedSimpArgs false

/-- Six cells of a block. -/
abbrev S6 (b : Nat) (v0 v1 v2 v3 v4 v5 : Value) (w' : World) : Prop :=
 w'.cell? ⟨b, 0, none⟩ = some v0 ∧ w'.cell? ⟨b, 1, none⟩ = some v1 ∧ w'.cell? ⟨b, 2, none⟩ = some v2 ∧ w'.cell? ⟨b, 3, none⟩ = some v3 ∧ w'.cell? ⟨b, 4, none⟩ = some v4 ∧ w'.cell? ⟨b, 5, none⟩ = some v5
theorem S6.of {b t : Nat} {v0 v1 v2 v3 v4 v5 : Value} {w' : World} (h : w'.heap[b]? = some (.cells #[v0, v1, v2, v3, v4, v5] t (0, 0))) : S6 b v0 v1 v2 v3 v4 v5 w' :=
 ⟨(blk_cell h 0).trans rfl, (blk_cell h 1).trans rfl, (blk_cell h 2).trans rfl, (blk_cell h 3).trans rfl, (blk_cell h 4).trans rfl, (blk_cell h 5).trans rfl⟩

end Go.Proofs.YtihjjkoddphmiaaDoor.img
namespace Go.Proofs.YtihjjkoddphmiaaDoor.img
open Go.RowKit Go.Proofs.YtihjjkoddphmiaaDoorW.PrintWords Go.Proofs.YtihjjkoddphmiaaDoorW.PrintLast Go.Proofs.YtihjjkoddphmiaaDoorW.PrintMore Go.Proofs.YtihjjkoddphmiaaDoor.PImageRound
set_option linter.unusedVariables false
set_option linter.unusedSimpArgs false

/-- A field's list, as it is read. -/
theorem Rm.field {w : World} {ρ : Nat → Role} {base r K i e : Nat} {C : Array Value} {M : Mk} (h : Rm w ρ base r C K) (hm : (i, e, M) ∈ flds) :
  ∃ (H : Option Addr) (cap cnt : Nat), w.cell? ⟨r, i, none⟩ = some (.slice H cnt cap) ∧ cnt ≤ K ∧ ∀ (k : Nat), k < cnt → ∃ (hb : Nat) (u : Value), H = some ⟨hb, 0, none⟩ ∧ w.cell? ⟨hb, k, none⟩ = some u ∧ M w ρ u := by
 obtain ⟨v, vals, h1, h2, h3, h4, h5⟩ := h.fld _ hm
 have hc := (blk_cell h.blk i).trans h1
 rcases h2.2 with ⟨rfl, h0⟩ | ⟨g, cap, cs, rfl, hb, hh, hcap, -, hs, ht⟩
 ·exact ⟨none, 0, vals.length, by rw [hc, h0], h3, fun k hk => by omega⟩
 ·refine ⟨some ⟨g, 0, none⟩, cap, vals.length, hc, h3, fun k hk => ⟨g, vals[k], rfl, ?_, h5 _ (List.getElem_mem _)⟩⟩
  rw [blk_cell hh]
  have : (cs.toList.take (vals.length * 1))[k]? = vals[k]? := by rw [ht]
  rw [List.getElem?_take, if_pos (by omega), List.getElem?_eq_getElem hk] at this
  simpa using this

set_option maxHeartbeats 8000000 in
set_option maxRecDepth 100000 in
theorem holdInts_any (base r K : Nat) (C : Array Value) (ρ : Nat → Role) (w : World) (hRm : Rm w ρ base r C K) (hK : K ≤ 4000000000000) :
  Calls Tryd.prog 37 #[.pointer (some ⟨r, 0, none⟩)] w fun e w' => e = .returned (.bool true) ∧ Below w.heap.size w w' := by
 have hb : Below w.heap.size w (w.alloc (.cells #[.int .i64 (-7701), .int .i64 (-7702)] 3)) := below_alloc (Below.refl _ _) _
 obtain ⟨H, cap, cnt, hc, hl, hv⟩ := (hRm.below hb).field fl1
 have HV := Aside0.mk hv
 have HB := Aside0.mk hb
 clear hRm hv hb
 obtain ⟨W, hW⟩ : ∃ W, W = w.alloc (.cells #[.int .i64 (-7701), .int .i64 (-7702)] 3) := ⟨_, rfl⟩
 have hm0 : W.cell? ⟨w.heap.size, 0, none⟩ = some (.int .i64 (-7701)) := by rw [hW, blk_cell (heap_alloc_new w _)]; rfl
 have hm1 : W.cell? ⟨w.heap.size, 1, none⟩ = some (.int .i64 (-7702)) := by rw [hW, blk_cell (heap_alloc_new w _)]; rfl
 rw [← hW] at hc HV HB
 have HW := Aside0.mk hW
 clear hW
 go_enter Tryd.func37, Tryd.ntmps37
 go_wp2
 rw [← HW.out]
 go_loop [4] (fun i => ∃ k : Nat, k ≤ cnt ∧ i = .int .i64 k) (fun i => cnt - (intOf i).toNat)
 case atStart => exact ⟨0, Nat.zero_le _, rfl⟩
 case round =>
  obtain ⟨k, hk, rfl⟩ := hrel
  by_cases hlt : k < cnt
  ·obtain ⟨hbk, u, rfl, hu, f, n, c, rfl, hn, hn2, hnc, hmk⟩ := HV.out k hlt
   obtain ⟨q, rfl⟩ : ∃ q, n = q + 40 := ⟨n - 40, by omega⟩
   have HM : Aside0 (∀ j : Nat, j < 40 → W.cell? ⟨f, q + j, none⟩ = some (.int .i64 (mk (-7701) j))) := ⟨fun j hj => by
    have := (hmk j hj).1
    rwa [show q + 40 - 40 + j = q + j by omega] at this⟩
   clear hmk
   go_wp2_with (fail)
   go_loop [6] (fun i => ∃ j : Nat, j ≤ 40 ∧ i = .int .i64 j) (fun i => 40 - (intOf i).toNat)
   case atStart => exact ⟨0, by omega, rfl⟩
   case round =>
    obtain ⟨j, hj, rfl⟩ := hrel
    by_cases hlj : j < 40
    ·have hcm := HM.out j hlj
     have q1 : (0 : Int) ≤ (q : Int) + (j : Int) := by omega
     have q2 : (q : Int) + (j : Int) < (q : Int) + 40 := by omega
     have q3 : ((q : Int) + (j : Int)).toNat = q + j := by omega
     by_cases hp : j % 2 = 0
     ·have hp2 : (j : Int) % 2 = 0 := by omega
      unfold mk at hcm
      rw [if_pos hp] at hcm
      clear hp
      go_wp2_with (fail)
      go_round
      case rel => exact ⟨j + 1, by omega, by go_num⟩
      case measure => simp [intOf]; omega
     ·have hp2 : (j : Int) % 2 = 1 := by omega
      unfold mk at hcm
      rw [if_neg hp] at hcm
      clear hp
      go_wp2_with (fail)
      go_round
      case rel => exact ⟨j + 1, by omega, by go_num⟩
      case measure => simp [intOf]; omega
    ·go_wp2_with (fail)
     go_round
     case rel => exact ⟨k + 1, by omega, by go_num⟩
     case measure => simp [intOf]; omega
  ·go_wp2_with (fail)
   go_ret
   exact ⟨rfl, HB.out⟩
set_option maxHeartbeats 8000000 in
set_option maxRecDepth 100000 in
theorem holdWords_any (base r K : Nat) (C : Array Value) (ρ : Nat → Role) (w : World) (hRm : Rm w ρ base r C K) (hK : K ≤ 4000000000000) :
  Calls Tryd.prog 38 #[.pointer (some ⟨r, 0, none⟩)] w fun e w' => e = .returned (.bool true) ∧ Below w.heap.size w w' := by
 have hb : Below w.heap.size w (w.alloc (.cells #[.int .u64 7701, .int .u64 7702] 25)) := below_alloc (Below.refl _ _) _
 obtain ⟨H, cap, cnt, hc, hl, hv⟩ := (hRm.below hb).field fl2
 have HV := Aside0.mk hv
 have HB := Aside0.mk hb
 clear hRm hv hb
 obtain ⟨W, hW⟩ : ∃ W, W = w.alloc (.cells #[.int .u64 7701, .int .u64 7702] 25) := ⟨_, rfl⟩
 have hm0 : W.cell? ⟨w.heap.size, 0, none⟩ = some (.int .u64 7701) := by rw [hW, blk_cell (heap_alloc_new w _)]; rfl
 have hm1 : W.cell? ⟨w.heap.size, 1, none⟩ = some (.int .u64 7702) := by rw [hW, blk_cell (heap_alloc_new w _)]; rfl
 rw [← hW] at hc HV HB
 have HW := Aside0.mk hW
 clear hW
 go_enter Tryd.func38, Tryd.ntmps38
 go_wp2
 rw [← HW.out]
 go_loop [4] (fun i => ∃ k : Nat, k ≤ cnt ∧ i = .int .i64 k) (fun i => cnt - (intOf i).toNat)
 case atStart => exact ⟨0, Nat.zero_le _, rfl⟩
 case round =>
  obtain ⟨k, hk, rfl⟩ := hrel
  by_cases hlt : k < cnt
  ·obtain ⟨hbk, u, rfl, hu, f, n, c, rfl, hn, hn2, hnc, hmk⟩ := HV.out k hlt
   obtain ⟨q, rfl⟩ : ∃ q, n = q + 40 := ⟨n - 40, by omega⟩
   have HM : Aside0 (∀ j : Nat, j < 40 → W.cell? ⟨f, q + j, none⟩ = some (.int .u64 (mkw j))) := ⟨fun j hj => by
    have := (hmk j hj).1
    rwa [show q + 40 - 40 + j = q + j by omega] at this⟩
   clear hmk
   go_wp2_with (fail)
   go_loop [6] (fun i => ∃ j : Nat, j ≤ 40 ∧ i = .int .i64 j) (fun i => 40 - (intOf i).toNat)
   case atStart => exact ⟨0, by omega, rfl⟩
   case round =>
    obtain ⟨j, hj, rfl⟩ := hrel
    by_cases hlj : j < 40
    ·have hcm := HM.out j hlj
     have q1 : (0 : Int) ≤ (q : Int) + (j : Int) := by omega
     have q2 : (q : Int) + (j : Int) < (q : Int) + 40 := by omega
     have q3 : ((q : Int) + (j : Int)).toNat = q + j := by omega
     by_cases hp : j % 2 = 0
     ·have hp2 : (j : Int) % 2 = 0 := by omega
      unfold mkw at hcm
      rw [if_pos hp] at hcm
      clear hp
      go_wp2_with (fail)
      go_round
      case rel => exact ⟨j + 1, by omega, by go_num⟩
      case measure => simp [intOf]; omega
     ·have hp2 : (j : Int) % 2 = 1 := by omega
      unfold mkw at hcm
      rw [if_neg hp] at hcm
      clear hp
      go_wp2_with (fail)
      go_round
      case rel => exact ⟨j + 1, by omega, by go_num⟩
      case measure => simp [intOf]; omega
    ·go_wp2_with (fail)
     go_round
     case rel => exact ⟨k + 1, by omega, by go_num⟩
     case measure => simp [intOf]; omega
  ·go_wp2_with (fail)
   go_ret
   exact ⟨rfl, HB.out⟩
set_option maxHeartbeats 8000000 in
set_option maxRecDepth 100000 in
theorem holdBytes_any (base r K : Nat) (C : Array Value) (ρ : Nat → Role) (w : World) (hRm : Rm w ρ base r C K) (hK : K ≤ 4000000000000) :
  Calls Tryd.prog 36 #[.pointer (some ⟨r, 0, none⟩)] w fun e w' => e = .returned (.bool true) ∧ Below w.heap.size w w' := by
 have hb : Below w.heap.size w (w.alloc (.cells #[.int .u8 165, .int .u8 90] 5)) := below_alloc (Below.refl _ _) _
 obtain ⟨H, cap, cnt, hc, hl, hv⟩ := (hRm.below hb).field fl0
 have HV := Aside0.mk hv
 have HB := Aside0.mk hb
 clear hRm hv hb
 obtain ⟨W, hW⟩ : ∃ W, W = w.alloc (.cells #[.int .u8 165, .int .u8 90] 5) := ⟨_, rfl⟩
 have hm0 : W.cell? ⟨w.heap.size, 0, none⟩ = some (.int .u8 165) := by rw [hW, blk_cell (heap_alloc_new w _)]; rfl
 have hm1 : W.cell? ⟨w.heap.size, 1, none⟩ = some (.int .u8 90) := by rw [hW, blk_cell (heap_alloc_new w _)]; rfl
 rw [← hW] at hc HV HB
 have HW := Aside0.mk hW
 clear hW
 go_enter Tryd.func36, Tryd.ntmps36
 go_wp2
 rw [← HW.out]
 go_loop [4] (fun i => ∃ k : Nat, k ≤ cnt ∧ i = .int .i64 k) (fun i => cnt - (intOf i).toNat)
 case atStart => exact ⟨0, Nat.zero_le _, rfl⟩
 case round =>
  obtain ⟨k, hk, rfl⟩ := hrel
  by_cases hlt : k < cnt
  ·obtain ⟨hbk, u, rfl, hu, f, n, c, rfl, hn, hn2, hnc, hmk⟩ := HV.out k hlt
   obtain ⟨q, rfl⟩ : ∃ q, n = q + 600 := ⟨n - 600, by omega⟩
   have HM : Aside0 (∀ j : Nat, j < 600 → W.cell? ⟨f, q + j, none⟩ = some (.int .u8 (mkb j))) := ⟨fun j hj => by
    have := (hmk j hj).1
    rwa [show q + 600 - 600 + j = q + j by omega] at this⟩
   clear hmk
   go_wp2_with (fail)
   go_loop [6] (fun i => ∃ j : Nat, j ≤ 600 ∧ i = .int .i64 j) (fun i => 600 - (intOf i).toNat)
   case atStart => exact ⟨0, by omega, rfl⟩
   case round =>
    obtain ⟨j, hj, rfl⟩ := hrel
    by_cases hlj : j < 600
    ·have hcm := HM.out j hlj
     have q1 : (0 : Int) ≤ (q : Int) + (j : Int) := by omega
     have q2 : (q : Int) + (j : Int) < (q : Int) + 600 := by omega
     have q3 : ((q : Int) + (j : Int)).toNat = q + j := by omega
     by_cases hp : j % 2 = 0
     ·have hp2 : (j : Int) % 2 = 0 := by omega
      unfold mkb at hcm
      rw [if_pos hp] at hcm
      clear hp
      go_wp2_with (fail)
      go_round
      case rel => exact ⟨j + 1, by omega, by go_num⟩
      case measure => simp [intOf]; omega
     ·have hp2 : (j : Int) % 2 = 1 := by omega
      unfold mkb at hcm
      rw [if_neg hp] at hcm
      clear hp
      go_wp2_with (fail)
      go_round
      case rel => exact ⟨j + 1, by omega, by go_num⟩
      case measure => simp [intOf]; omega
    ·go_wp2_with (fail)
     go_round
     case rel => exact ⟨k + 1, by omega, by go_num⟩
     case measure => simp [intOf]; omega
  ·go_wp2_with (fail)
   go_ret
   exact ⟨rfl, HB.out⟩

set_option maxHeartbeats 8000000 in
set_option maxRecDepth 100000 in
theorem holdTexts_any (base r K : Nat) (C : Array Value) (ρ : Nat → Role) (w : World) (hRm : Rm w ρ base r C K) : Calls Tryd.prog 39 #[.pointer (some ⟨r, 0, none⟩)] w fun e w' => e = .returned (.bool true) ∧ Below w.heap.size w w' := by
 have hc : ∀ o, (w.alloc o).cell? ⟨r, 3, none⟩ = some (.slice none 0 0) := fun o => (blk_cell (blk_alloc hRm.blk o) 3).trans hRm.f3
 clear hRm
 go_enter Tryd.func39, Tryd.ntmps39
 go_wp2
 refine wp_loop_rounds 1 ?_
 rw [rounds_succ]
 go_wp2
 go_ret
 exact ⟨rfl, below_alloc (Below.refl _ _) _⟩

set_option maxHeartbeats 8000000 in
set_option maxRecDepth 100000 in
theorem holdOps_any (base r K : Nat) (C : Array Value) (ρ : Nat → Role) (w : World) (hRm : Rm w ρ base r C K) : Calls Tryd.prog 40 #[.pointer (some ⟨r, 0, none⟩)] w fun e w' => e = .returned (.bool true) ∧ Below w.heap.size w w' := by
 have hc : ∀ o, (w.alloc o).cell? ⟨r, 4, none⟩ = some (.slice none 0 0) := fun o => (blk_cell (blk_alloc hRm.blk o) 4).trans hRm.f4
 clear hRm
 go_enter Tryd.func40, Tryd.ntmps40
 go_wp2
 refine wp_loop_rounds 1 ?_
 rw [rounds_succ]
 go_wp2
 go_ret
 exact ⟨rfl, below_alloc (Below.refl _ _) _⟩
end Go.Proofs.YtihjjkoddphmiaaDoor.img
