/-
  The two functions Better answer the same: the walks for TunerBetters.
-/
import Derived.Test.YtfphmkdcjbokeaaRows
import Derived.WalkKit
import Derived.WalkLawsBesides
import Derived.ProofKit
import Derived.OpenShut
import Derived.Below
import Derived.Deep.RegionHeld3
import Derived.Deep.QuietTactic
import Derived.BigQuiet
namespace Go.Proofs.Ytfphmkdcjbokeaa.bet
open Go.RowKit

/-- Which cost is better. -/
def bet (g aF aT aW bF bT bW : Int) : Bool :=
  if g > 0 ∧ (decide (aW > g) != decide (bW > g)) = true then decide (bW > g) else
  if aF ≠ bF then decide (aF < bF) else if aT ≠ bT then decide (aT < bT) else decide (aW < bW)

abbrev costV (a0 a1 a2 a3 a4 a5 a6 a7 a8 a9 : Int) : Value := .agg #[.int .i64 a0, .int .i64 a1, .int .i64 a2, .int .i64 a3, .int .i64 a4, .int .i64 a5, .int .i64 a6, .int .i64 a7, .int .i64 a8, .int .i64 a9]

theorem bet1 {g aF bF aT bT aW bW : Int} (h : 0 < g) (h1 : (!decide (g < aW) == decide (g < bW)) = true) : bet g aF aT aW bF bT bW = decide (g < bW) := by
  unfold bet
  rw [if_pos ⟨h, by simpa [bne] using h1⟩]
theorem bet_else {g aF bF aT bT aW bW : Int} (h : g ≤ 0 ∨ (!decide (g < aW) == decide (g < bW)) = false) : bet g aF aT aW bF bT bW = if aF ≠ bF then decide (aF < bF) else if aT ≠ bT then decide (aT < bT) else decide (aW < bW) := by
  unfold bet
  rw [if_neg]
  rintro ⟨h0, h1⟩
  rcases h with h | h
  · omega
  · simp [bne] at h h1
    simp_all
theorem bet2 {g aF bF aT bT aW bW : Int} (h : g ≤ 0 ∨ (!decide (g < aW) == decide (g < bW)) = false) (h2 : (aF != bF) = true) : bet g aF aT aW bF bT bW = decide (aF < bF) := by
  rw [bet_else h, if_pos (by simpa using h2)]
theorem bet3 {g aF bF aT bT aW bW : Int} (h : g ≤ 0 ∨ (!decide (g < aW) == decide (g < bW)) = false) (h2 : (aF != bF) = false) (h3 : (aT != bT) = true) : bet g aF aT aW bF bT bW = decide (aT < bT) := by
  rw [bet_else h, if_neg (by simpa using h2), if_pos (by simpa using h3)]
theorem bet4 {g aF bF aT bT aW bW : Int} (h : g ≤ 0 ∨ (!decide (g < aW) == decide (g < bW)) = false) (h2 : (aF != bF) = false) (h3 : (aT != bT) = false) : bet g aF aT aW bF bT bW = decide (aW < bW) := by
  rw [bet_else h, if_neg (by simpa using h2), if_neg (by simpa using h3)]
theorem ret_bool {a b : Bool} (h : b = a) : Ending.returned (.bool a) = .returned (.bool b) := by rw [h]

set_option maxHeartbeats 4000000 in
theorem ref_any (g a0 a1 a2 a3 a4 a5 a6 a7 a8 a9 b0 b1 b2 b3 b4 b5 b6 b7 b8 b9 : Int) (w : World) :
    Calls Try.prog 11 #[.agg #[.int .i64 g], costV a0 a1 a2 a3 a4 a5 a6 a7 a8 a9, costV b0 b1 b2 b3 b4 b5 b6 b7 b8 b9] w
      fun e w' => e = .returned (.bool (bet g a5 a9 a8 b5 b9 b8)) ∧ Below w.heap.size w w' := by
  go_enter Try.func11, Try.ntmps11
  go_wp2
  all_goals
    go_ret
    refine ⟨?_, ((((Below.refl _ _).alloc (Nat.le_refl _) _).alloc (by simp) _).alloc (by simp; omega) _)⟩
    first
    | exact ret_bool (bet1 (by assumption) (by assumption))
    | exact ret_bool (bet2 (.inl (by assumption)) (by assumption))
    | exact ret_bool (bet3 (.inl (by assumption)) (by assumption) (by assumption))
    | exact ret_bool (bet4 (.inl (by assumption)) (by assumption) (by assumption))
    | exact ret_bool (bet2 (.inr (by assumption)) (by assumption))
    | exact ret_bool (bet3 (.inr (by assumption)) (by assumption) (by assumption))
    | exact ret_bool (bet4 (.inr (by assumption)) (by assumption) (by assumption))

set_option maxHeartbeats 4000000 in
theorem tun_any (g a0 a1 a2 a3 a4 a5 a6 a7 a8 a9 b0 b1 b2 b3 b4 b5 b6 b7 b8 b9 : Int) (w : World) :
    Calls Try.prog 10 #[.agg #[.int .i64 g], costV a0 a1 a2 a3 a4 a5 a6 a7 a8 a9, costV b0 b1 b2 b3 b4 b5 b6 b7 b8 b9] w
      fun e w' => e = .returned (.bool (bet g a5 a9 a8 b5 b9 b8)) ∧ Below w.heap.size w w' := by
  go_enter Try.func10, Try.ntmps10
  go_wp2
  · go_quiet (fail)
    go_wp2
    all_goals
      go_ret
      refine ⟨?_, below_drewN ((((Below.refl _ _).alloc (Nat.le_refl _) _).alloc (by simp) _).alloc (by simp; omega) _) _⟩
      first
      | exact ret_bool (bet1 (by assumption) (by assumption))
      | exact ret_bool (bet2 (.inr (by assumption)) (by assumption))
      | exact ret_bool (bet3 (.inr (by assumption)) (by assumption) (by assumption))
      | exact ret_bool (bet4 (.inr (by assumption)) (by assumption) (by assumption))
  all_goals
    go_ret
    refine ⟨?_, ((((Below.refl _ _).alloc (Nat.le_refl _) _).alloc (by simp) _).alloc (by simp; omega) _)⟩
    first
    | exact ret_bool (bet2 (.inl (by assumption)) (by assumption))
    | exact ret_bool (bet3 (.inl (by assumption)) (by assumption) (by assumption))
    | exact ret_bool (bet4 (.inl (by assumption)) (by assumption) (by assumption))


abbrev St (w : World) (g a0 a1 a2 a3 a4 a5 a6 a7 a8 a9 b0 b1 b2 b3 b4 b5 b6 b7 b8 b9 : Int) (w' : World) : Prop := w'.cell? ⟨w.heap.size, 0, none⟩ = some (.int .i64 g) ∧ w'.cell? ⟨w.heap.size + 1, 0, none⟩ = some (.int .i64 a0) ∧ w'.cell? ⟨w.heap.size + 1, 1, none⟩ = some (.int .i64 a1) ∧ w'.cell? ⟨w.heap.size + 1, 2, none⟩ = some (.int .i64 a2) ∧ w'.cell? ⟨w.heap.size + 1, 3, none⟩ = some (.int .i64 a3) ∧ w'.cell? ⟨w.heap.size + 1, 4, none⟩ = some (.int .i64 a4) ∧ w'.cell? ⟨w.heap.size + 1, 5, none⟩ = some (.int .i64 a5) ∧ w'.cell? ⟨w.heap.size + 1, 6, none⟩ = some (.int .i64 a6) ∧ w'.cell? ⟨w.heap.size + 1, 7, none⟩ = some (.int .i64 a7) ∧ w'.cell? ⟨w.heap.size + 1, 8, none⟩ = some (.int .i64 a8) ∧ w'.cell? ⟨w.heap.size + 1, 9, none⟩ = some (.int .i64 a9) ∧ w'.cell? ⟨w.heap.size + 1 + 1, 0, none⟩ = some (.int .i64 b0) ∧ w'.cell? ⟨w.heap.size + 1 + 1, 1, none⟩ = some (.int .i64 b1) ∧ w'.cell? ⟨w.heap.size + 1 + 1, 2, none⟩ = some (.int .i64 b2) ∧ w'.cell? ⟨w.heap.size + 1 + 1, 3, none⟩ = some (.int .i64 b3) ∧ w'.cell? ⟨w.heap.size + 1 + 1, 4, none⟩ = some (.int .i64 b4) ∧ w'.cell? ⟨w.heap.size + 1 + 1, 5, none⟩ = some (.int .i64 b5) ∧ w'.cell? ⟨w.heap.size + 1 + 1, 6, none⟩ = some (.int .i64 b6) ∧ w'.cell? ⟨w.heap.size + 1 + 1, 7, none⟩ = some (.int .i64 b7) ∧ w'.cell? ⟨w.heap.size + 1 + 1, 8, none⟩ = some (.int .i64 b8) ∧ w'.cell? ⟨w.heap.size + 1 + 1, 9, none⟩ = some (.int .i64 b9) ∧ w.heap.size + 1 + 1 + 1 ≤ w'.heap.size ∧ Below w.heap.size w w'
theorem St.start (w : World) (g a0 a1 a2 a3 a4 a5 a6 a7 a8 a9 b0 b1 b2 b3 b4 b5 b6 b7 b8 b9 : Int) : St w g a0 a1 a2 a3 a4 a5 a6 a7 a8 a9 b0 b1 b2 b3 b4 b5 b6 b7 b8 b9 (((w.alloc (.cells #[.int .i64 g] 24)).alloc (.cells #[.int .i64 a0, .int .i64 a1, .int .i64 a2, .int .i64 a3, .int .i64 a4, .int .i64 a5, .int .i64 a6, .int .i64 a7, .int .i64 a8, .int .i64 a9] 26)).alloc (.cells #[.int .i64 b0, .int .i64 b1, .int .i64 b2, .int .i64 b3, .int .i64 b4, .int .i64 b5, .int .i64 b6, .int .i64 b7, .int .i64 b8, .int .i64 b9] 26)) :=
  ⟨(World.cell?_alloc_past _ _ _ (by simp; omega)).trans ((World.cell?_alloc_past _ _ _ (by simp)).trans (World.cell?_alloc_at _ _ _ _ rfl)), (World.cell?_alloc_past _ _ _ (by simp)).trans (World.cell?_alloc_at _ _ _ _ (by simp)), (World.cell?_alloc_past _ _ _ (by simp)).trans (World.cell?_alloc_at _ _ _ _ (by simp)), (World.cell?_alloc_past _ _ _ (by simp)).trans (World.cell?_alloc_at _ _ _ _ (by simp)), (World.cell?_alloc_past _ _ _ (by simp)).trans (World.cell?_alloc_at _ _ _ _ (by simp)), (World.cell?_alloc_past _ _ _ (by simp)).trans (World.cell?_alloc_at _ _ _ _ (by simp)), (World.cell?_alloc_past _ _ _ (by simp)).trans (World.cell?_alloc_at _ _ _ _ (by simp)), (World.cell?_alloc_past _ _ _ (by simp)).trans (World.cell?_alloc_at _ _ _ _ (by simp)), (World.cell?_alloc_past _ _ _ (by simp)).trans (World.cell?_alloc_at _ _ _ _ (by simp)), (World.cell?_alloc_past _ _ _ (by simp)).trans (World.cell?_alloc_at _ _ _ _ (by simp)), (World.cell?_alloc_past _ _ _ (by simp)).trans (World.cell?_alloc_at _ _ _ _ (by simp)), World.cell?_alloc_at _ _ _ _ (by simp), World.cell?_alloc_at _ _ _ _ (by simp), World.cell?_alloc_at _ _ _ _ (by simp), World.cell?_alloc_at _ _ _ _ (by simp), World.cell?_alloc_at _ _ _ _ (by simp), World.cell?_alloc_at _ _ _ _ (by simp), World.cell?_alloc_at _ _ _ _ (by simp), World.cell?_alloc_at _ _ _ _ (by simp), World.cell?_alloc_at _ _ _ _ (by simp), World.cell?_alloc_at _ _ _ _ (by simp), by simp, ((((Below.refl _ _).alloc (Nat.le_refl _) _).alloc (by simp) _).alloc (by simp; omega) _)⟩
theorem St.below {w w1 w' : World} {g a0 a1 a2 a3 a4 a5 a6 a7 a8 a9 b0 b1 b2 b3 b4 b5 b6 b7 b8 b9 : Int} (h : St w g a0 a1 a2 a3 a4 a5 a6 a7 a8 a9 b0 b1 b2 b3 b4 b5 b6 b7 b8 b9 w1) (hb : Below w1.heap.size w1 w') : St w g a0 a1 a2 a3 a4 a5 a6 a7 a8 a9 b0 b1 b2 b3 b4 b5 b6 b7 b8 b9 w' := by
  obtain ⟨h0, h1, h2, h3, h4, h5, h6, h7, h8, h9, h10, h11, h12, h13, h14, h15, h16, h17, h18, h19, h20, h21, h22⟩ := h
  exact ⟨(hb.cell (p := ⟨w.heap.size, 0, none⟩) (by simp; omega)).trans h0, (hb.cell (p := ⟨w.heap.size + 1, 0, none⟩) (by simp; omega)).trans h1, (hb.cell (p := ⟨w.heap.size + 1, 1, none⟩) (by simp; omega)).trans h2, (hb.cell (p := ⟨w.heap.size + 1, 2, none⟩) (by simp; omega)).trans h3, (hb.cell (p := ⟨w.heap.size + 1, 3, none⟩) (by simp; omega)).trans h4, (hb.cell (p := ⟨w.heap.size + 1, 4, none⟩) (by simp; omega)).trans h5, (hb.cell (p := ⟨w.heap.size + 1, 5, none⟩) (by simp; omega)).trans h6, (hb.cell (p := ⟨w.heap.size + 1, 6, none⟩) (by simp; omega)).trans h7, (hb.cell (p := ⟨w.heap.size + 1, 7, none⟩) (by simp; omega)).trans h8, (hb.cell (p := ⟨w.heap.size + 1, 8, none⟩) (by simp; omega)).trans h9, (hb.cell (p := ⟨w.heap.size + 1, 9, none⟩) (by simp; omega)).trans h10, (hb.cell (p := ⟨w.heap.size + 1 + 1, 0, none⟩) (by simp; omega)).trans h11, (hb.cell (p := ⟨w.heap.size + 1 + 1, 1, none⟩) (by simp; omega)).trans h12, (hb.cell (p := ⟨w.heap.size + 1 + 1, 2, none⟩) (by simp; omega)).trans h13, (hb.cell (p := ⟨w.heap.size + 1 + 1, 3, none⟩) (by simp; omega)).trans h14, (hb.cell (p := ⟨w.heap.size + 1 + 1, 4, none⟩) (by simp; omega)).trans h15, (hb.cell (p := ⟨w.heap.size + 1 + 1, 5, none⟩) (by simp; omega)).trans h16, (hb.cell (p := ⟨w.heap.size + 1 + 1, 6, none⟩) (by simp; omega)).trans h17, (hb.cell (p := ⟨w.heap.size + 1 + 1, 7, none⟩) (by simp; omega)).trans h18, (hb.cell (p := ⟨w.heap.size + 1 + 1, 8, none⟩) (by simp; omega)).trans h19, (hb.cell (p := ⟨w.heap.size + 1 + 1, 9, none⟩) (by simp; omega)).trans h20, Nat.le_trans h21 hb.size, h22.trans (hb.mono (by omega))⟩
theorem St.drew {w w1 : World} {g a0 a1 a2 a3 a4 a5 a6 a7 a8 a9 b0 b1 b2 b3 b4 b5 b6 b7 b8 b9 : Int} (h : St w g a0 a1 a2 a3 a4 a5 a6 a7 a8 a9 b0 b1 b2 b3 b4 b5 b6 b7 b8 b9 w1) : St w g a0 a1 a2 a3 a4 a5 a6 a7 a8 a9 b0 b1 b2 b3 b4 b5 b6 b7 b8 b9 w1.drew :=
  h.below ⟨rfl, rfl, rfl, Nat.le_refl _, fun _ _ => rfl⟩

set_option maxHeartbeats 4000000 in
theorem law_any (g a0 a1 a2 a3 a4 a5 a6 a7 a8 a9 b0 b1 b2 b3 b4 b5 b6 b7 b8 b9 : Int) (w : World) :
    Calls Try.prog 8 #[.agg #[.int .i64 g], costV a0 a1 a2 a3 a4 a5 a6 a7 a8 a9, costV b0 b1 b2 b3 b4 b5 b6 b7 b8 b9] w
      fun e w' => e = .returned (.bool true) ∧ Below w.heap.size w w' := by
  have hs : ∀ wx, St w g a0 a1 a2 a3 a4 a5 a6 a7 a8 a9 b0 b1 b2 b3 b4 b5 b6 b7 b8 b9 wx → Below w.heap.size w wx := fun wx h => by
    obtain ⟨_, _, _, _, _, _, _, _, _, _, _, _, _, _, _, _, _, _, _, _, _, _, h⟩ := h
    exact h
  go_enter Try.func8, Try.ntmps8
  go_wp2
  go_region_held3 (St w g a0 a1 a2 a3 a4 a5 a6 a7 a8 a9 b0 b1 b2 b3 b4 b5 b6 b7 b8 b9) (first | exact St.start .. | exact St.drew (St.start ..) | exact St.below (by assumption) (by assumption) | go_keep)
    (first | (go_at_call 10; refine (tun_any _ _ _ _ _ _ _ _ _ _ _ _ _ _ _ _ _ _ _ _ _ _).mono ?_; rintro e w' ⟨rfl, hb⟩) | (go_at_call 11; refine (ref_any _ _ _ _ _ _ _ _ _ _ _ _ _ _ _ _ _ _ _ _ _ _).mono ?_; rintro e w' ⟨rfl, hb⟩))
  go_wp2
  go_ret
  exact ⟨rfl, hs _ (by assumption)⟩
end Go.Proofs.Ytfphmkdcjbokeaa.bet
