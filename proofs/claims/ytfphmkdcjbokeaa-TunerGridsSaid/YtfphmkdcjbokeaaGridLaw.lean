/-
  The walk of middenlaw21.TunerGrids: both Grids tell the same list.
-/
import Derived.Test.YtfphmkdcjbokeaaGridRef
import Derived.Test.YtfphmkdcjbokeaaGridTun
import Derived.Test.YtfphmkdcjbokeaaPTunerGridsx2
namespace Go.Proofs.Ytfphmkdcjbokeaa.grids
open Go.RowKit Go.Proofs.YtfphmkdcjbokeaaW.PrintWords Go.Proofs.YtfphmkdcjbokeaaW.PrintLast Go.Proofs.YtfphmkdcjbokeaaW.PrintMore Go.Proofs.Ytfphmkdcjbokeaa.PTunerGrids
set_option linter.unusedVariables false
set_option linter.unusedSimpArgs false

theorem same_l (l : List S29) (hl : l.length ≤ 1000) (d : Nat) : ∀ (k : Nat) (i : Int), 0 ≤ i → i ≤ l.length → (l.length : Int) - i = d → d < k → middenlaw21_sameConfigs.l0 k l l i = some true := by
  induction d with
  | zero =>
    intro k i h0 h1 hd hk
    obtain ⟨k, rfl⟩ : ∃ m, k = m + 1 := ⟨k - 1, by omega⟩
    simp only [middenlaw21_sameConfigs.l0]
    rw [if_neg (by omega)]
  | succ d ih =>
    intro k i h0 h1 hd hk
    obtain ⟨k, rfl⟩ : ∃ m, k = m + 1 := ⟨k - 1, by omega⟩
    simp only [middenlaw21_sameConfigs.l0]
    rw [if_pos (by omega), if_pos h0, if_pos (by omega), if_neg (by simp)]
    have hw : wrap64 (i + 1) = i + 1 := by unfold wrap64; omega
    rw [hw]
    exact ih k (i + 1) (by omega) (by omega) (by omega) (by omega)
theorem same_f (l : List S29) (hl : l.length ≤ 1000) : middenlaw21_sameConfigs.f (l.length + 1) l l = some true := by
  unfold middenlaw21_sameConfigs.f
  rw [if_pos rfl]
  exact same_l l hl l.length _ 0 (by omega) (by omega) (by omega) (by omega)

def GL (a0 a1 a2 a3 a4 a5 a6 a7 a8 a9 a10 a11 a12 a13 : Int) : List S29 := if vd a0 a1 a2 a3 a4 a5 a6 a7 a8 a9 a10 a11 a12 a13 = true then (cand (⟨a0, a1, a2, a3, a4, a5, a6, a7, a8, a9, a10, a11, a12, a13⟩ : S29)).filter V else []
theorem GL_len (a0 a1 a2 a3 a4 a5 a6 a7 a8 a9 a10 a11 a12 a13 : Int) : (GL a0 a1 a2 a3 a4 a5 a6 a7 a8 a9 a10 a11 a12 a13).length ≤ 1000 := by
  unfold GL
  split
  · have h1 : ((cand (⟨a0, a1, a2, a3, a4, a5, a6, a7, a8, a9, a10, a11, a12, a13⟩ : S29)).filter V).length ≤ (cand (⟨a0, a1, a2, a3, a4, a5, a6, a7, a8, a9, a10, a11, a12, a13⟩ : S29)).length := List.length_filter_le _ _
    have h3 : (cand (⟨a0, a1, a2, a3, a4, a5, a6, a7, a8, a9, a10, a11, a12, a13⟩ : S29)).length = 12 := rfl
    omega
  · simp
/-- What each Grid answers: a list that reads so, nothing old is written. -/
def PostG (l : List S29) (w : World) (e : Ending) (w' : World) : Prop := ∃ (A : Option Addr) (c : Nat), e = .returned (.slice A l.length c) ∧ l.length ≤ c ∧ Kd.C k29 w' A l.length l ∧ Below w.heap.size w w'
theorem tun_any (a0 a1 a2 a3 a4 a5 a6 a7 a8 a9 a10 a11 a12 a13 : Int) (w : World) : Calls Try.prog 13 #[.agg #[.int .i64 a0, .int .i64 a1, .int .i64 a2, .int .i64 a3, .int .i64 a4, .int .i64 a5, .int .i64 a6, .int .i64 a7, .int .i64 a8, .int .i64 a9, .int .i64 a10, .int .i64 a11, .int .i64 a12, .int .i64 a13]] w (PostG (GL a0 a1 a2 a3 a4 a5 a6 a7 a8 a9 a10 a11 a12 a13) w) := by
  unfold GL
  cases hv : vd a0 a1 a2 a3 a4 a5 a6 a7 a8 a9 a10 a11 a12 a13
  · refine (tun_no a0 a1 a2 a3 a4 a5 a6 a7 a8 a9 a10 a11 a12 a13 w hv).mono ?_
    rintro e w' ⟨v, rfl, hr, hb⟩
    obtain ⟨A, c, rfl, hc, hC⟩ := Kd.R_reads hr
    exact ⟨A, c, rfl, hc, hC, hb⟩
  · refine (tun_yes a0 a1 a2 a3 a4 a5 a6 a7 a8 a9 a10 a11 a12 a13 w hv).mono ?_
    rintro e w' ⟨v, rfl, hr, hb⟩
    obtain ⟨A, c, rfl, hc, hC⟩ := Kd.R_reads hr
    exact ⟨A, c, rfl, hc, hC, hb⟩
theorem ref_any (a0 a1 a2 a3 a4 a5 a6 a7 a8 a9 a10 a11 a12 a13 : Int) (w : World) : Calls Try.prog 14 #[.agg #[.int .i64 a0, .int .i64 a1, .int .i64 a2, .int .i64 a3, .int .i64 a4, .int .i64 a5, .int .i64 a6, .int .i64 a7, .int .i64 a8, .int .i64 a9, .int .i64 a10, .int .i64 a11, .int .i64 a12, .int .i64 a13]] w (PostG (GL a0 a1 a2 a3 a4 a5 a6 a7 a8 a9 a10 a11 a12 a13) w) := by
  unfold GL
  cases hv : vd a0 a1 a2 a3 a4 a5 a6 a7 a8 a9 a10 a11 a12 a13
  · refine (ref_no a0 a1 a2 a3 a4 a5 a6 a7 a8 a9 a10 a11 a12 a13 w hv).mono ?_
    rintro e w' ⟨v, rfl, hr, hb⟩
    obtain ⟨A, c, rfl, hc, hC⟩ := Kd.R_reads hr
    exact ⟨A, c, rfl, hc, hC, hb⟩
  · refine (ref_yes a0 a1 a2 a3 a4 a5 a6 a7 a8 a9 a10 a11 a12 a13 w hv).mono ?_
    rintro e w' ⟨v, rfl, hr, hb⟩
    obtain ⟨A, c, rfl, hc, hC⟩ := Kd.R_reads hr
    exact ⟨A, c, rfl, hc, hC, hb⟩

abbrev St (w : World) (a0 a1 a2 a3 a4 a5 a6 a7 a8 a9 a10 a11 a12 a13 : Int) (w' : World) : Prop := w'.cell? ⟨w.heap.size, 0, none⟩ = some (.int .i64 a0) ∧ w'.cell? ⟨w.heap.size, 1, none⟩ = some (.int .i64 a1) ∧ w'.cell? ⟨w.heap.size, 2, none⟩ = some (.int .i64 a2) ∧ w'.cell? ⟨w.heap.size, 3, none⟩ = some (.int .i64 a3) ∧ w'.cell? ⟨w.heap.size, 4, none⟩ = some (.int .i64 a4) ∧ w'.cell? ⟨w.heap.size, 5, none⟩ = some (.int .i64 a5) ∧ w'.cell? ⟨w.heap.size, 6, none⟩ = some (.int .i64 a6) ∧ w'.cell? ⟨w.heap.size, 7, none⟩ = some (.int .i64 a7) ∧ w'.cell? ⟨w.heap.size, 8, none⟩ = some (.int .i64 a8) ∧ w'.cell? ⟨w.heap.size, 9, none⟩ = some (.int .i64 a9) ∧ w'.cell? ⟨w.heap.size, 10, none⟩ = some (.int .i64 a10) ∧ w'.cell? ⟨w.heap.size, 11, none⟩ = some (.int .i64 a11) ∧ w'.cell? ⟨w.heap.size, 12, none⟩ = some (.int .i64 a12) ∧ w'.cell? ⟨w.heap.size, 13, none⟩ = some (.int .i64 a13) ∧ w.heap.size < w'.heap.size ∧ Aside0 (Below w.heap.size w w')
theorem St.below {w w1 w' : World} {a0 a1 a2 a3 a4 a5 a6 a7 a8 a9 a10 a11 a12 a13 : Int} (h : St w a0 a1 a2 a3 a4 a5 a6 a7 a8 a9 a10 a11 a12 a13 w1) (hb : Below w1.heap.size w1 w') : St w a0 a1 a2 a3 a4 a5 a6 a7 a8 a9 a10 a11 a12 a13 w' := by
  obtain ⟨h0, h1, h2, h3, h4, h5, h6, h7, h8, h9, h10, h11, h12, h13, h14, h15⟩ := h
  exact ⟨(hb.cell (p := ⟨w.heap.size, 0, none⟩) (by simp; omega)).trans h0, (hb.cell (p := ⟨w.heap.size, 1, none⟩) (by simp; omega)).trans h1, (hb.cell (p := ⟨w.heap.size, 2, none⟩) (by simp; omega)).trans h2, (hb.cell (p := ⟨w.heap.size, 3, none⟩) (by simp; omega)).trans h3, (hb.cell (p := ⟨w.heap.size, 4, none⟩) (by simp; omega)).trans h4, (hb.cell (p := ⟨w.heap.size, 5, none⟩) (by simp; omega)).trans h5, (hb.cell (p := ⟨w.heap.size, 6, none⟩) (by simp; omega)).trans h6, (hb.cell (p := ⟨w.heap.size, 7, none⟩) (by simp; omega)).trans h7, (hb.cell (p := ⟨w.heap.size, 8, none⟩) (by simp; omega)).trans h8, (hb.cell (p := ⟨w.heap.size, 9, none⟩) (by simp; omega)).trans h9, (hb.cell (p := ⟨w.heap.size, 10, none⟩) (by simp; omega)).trans h10, (hb.cell (p := ⟨w.heap.size, 11, none⟩) (by simp; omega)).trans h11, (hb.cell (p := ⟨w.heap.size, 12, none⟩) (by simp; omega)).trans h12, (hb.cell (p := ⟨w.heap.size, 13, none⟩) (by simp; omega)).trans h13, Nat.lt_of_lt_of_le h14 hb.size, ⟨below_step h15.out hb⟩⟩
theorem St.start (w : World) (a0 a1 a2 a3 a4 a5 a6 a7 a8 a9 a10 a11 a12 a13 : Int) : St w a0 a1 a2 a3 a4 a5 a6 a7 a8 a9 a10 a11 a12 a13 (w.alloc (.cells #[.int .i64 a0, .int .i64 a1, .int .i64 a2, .int .i64 a3, .int .i64 a4, .int .i64 a5, .int .i64 a6, .int .i64 a7, .int .i64 a8, .int .i64 a9, .int .i64 a10, .int .i64 a11, .int .i64 a12, .int .i64 a13] 29)) :=
  ⟨World.cell?_alloc_at _ _ _ _ rfl, World.cell?_alloc_at _ _ _ _ rfl, World.cell?_alloc_at _ _ _ _ rfl, World.cell?_alloc_at _ _ _ _ rfl, World.cell?_alloc_at _ _ _ _ rfl, World.cell?_alloc_at _ _ _ _ rfl, World.cell?_alloc_at _ _ _ _ rfl, World.cell?_alloc_at _ _ _ _ rfl, World.cell?_alloc_at _ _ _ _ rfl, World.cell?_alloc_at _ _ _ _ rfl, World.cell?_alloc_at _ _ _ _ rfl, World.cell?_alloc_at _ _ _ _ rfl, World.cell?_alloc_at _ _ _ _ rfl, World.cell?_alloc_at _ _ _ _ rfl, by simp, ⟨below_alloc (Below.refl w.heap.size w) _⟩⟩
theorem St.drew {w w1 : World} {a0 a1 a2 a3 a4 a5 a6 a7 a8 a9 a10 a11 a12 a13 : Int} (h : St w a0 a1 a2 a3 a4 a5 a6 a7 a8 a9 a10 a11 a12 a13 w1) : St w a0 a1 a2 a3 a4 a5 a6 a7 a8 a9 a10 a11 a12 a13 w1.drew :=
  h.below ⟨rfl, rfl, rfl, Nat.le_refl _, fun _ _ => rfl⟩

set_option maxHeartbeats 8000000 in
set_option maxRecDepth 100000 in
theorem law_any (a0 a1 a2 a3 a4 a5 a6 a7 a8 a9 a10 a11 a12 a13 : Int) (w : World) :
    Calls Try.prog 9 #[.agg #[.int .i64 a0, .int .i64 a1, .int .i64 a2, .int .i64 a3, .int .i64 a4, .int .i64 a5, .int .i64 a6, .int .i64 a7, .int .i64 a8, .int .i64 a9, .int .i64 a10, .int .i64 a11, .int .i64 a12, .int .i64 a13]] w fun e w' => e = .returned (.bool true) ∧ Below w.heap.size w w' := by
  have hs : ∀ wx, St w a0 a1 a2 a3 a4 a5 a6 a7 a8 a9 a10 a11 a12 a13 wx → Aside0 (Below w.heap.size w wx) := fun wx h => by
    obtain ⟨_, _, _, _, _, _, _, _, _, _, _, _, _, _, _, h⟩ := h
    exact h
  have HGL := Aside0.mk (GL_len a0 a1 a2 a3 a4 a5 a6 a7 a8 a9 a10 a11 a12 a13)
  generalize hg : GL a0 a1 a2 a3 a4 a5 a6 a7 a8 a9 a10 a11 a12 a13 = L at HGL
  have HT : Aside0 (∀ wx, Calls Try.prog 13 #[.agg #[.int .i64 a0, .int .i64 a1, .int .i64 a2, .int .i64 a3, .int .i64 a4, .int .i64 a5, .int .i64 a6, .int .i64 a7, .int .i64 a8, .int .i64 a9, .int .i64 a10, .int .i64 a11, .int .i64 a12, .int .i64 a13]] wx (PostG L wx)) := ⟨fun wx => by rw [← hg]; exact tun_any a0 a1 a2 a3 a4 a5 a6 a7 a8 a9 a10 a11 a12 a13 wx⟩
  have HR : Aside0 (∀ wx, Calls Try.prog 14 #[.agg #[.int .i64 a0, .int .i64 a1, .int .i64 a2, .int .i64 a3, .int .i64 a4, .int .i64 a5, .int .i64 a6, .int .i64 a7, .int .i64 a8, .int .i64 a9, .int .i64 a10, .int .i64 a11, .int .i64 a12, .int .i64 a13]] wx (PostG L wx)) := ⟨fun wx => by rw [← hg]; exact ref_any a0 a1 a2 a3 a4 a5 a6 a7 a8 a9 a10 a11 a12 a13 wx⟩
  have HS : Aside0 (middenlaw21_sameConfigs.f (L.length + 1) L L = some true) := ⟨same_f L HGL.out⟩
  clear hg
  go_enter Try.func9, Try.ntmps9
  go_wp2
  go_region_held3 (St w a0 a1 a2 a3 a4 a5 a6 a7 a8 a9 a10 a11 a12 a13) (first | exact St.start .. | exact St.drew (St.start ..) | exact St.below (by assumption) (by assumption) | go_keep)
    (first | (go_at_call 13; refine (HT.out _).mono ?_; rintro e w1 ⟨A1, c1, rfl, hc1, hC1, hb⟩; have HC1 := Aside0.mk hc1; have HK1 := Aside0.mk hC1; (try have HK2 := Aside0.mk (Kd.C_below HK2.out hb)); clear hc1 hC1) | (go_at_call 14; refine (HR.out _).mono ?_; rintro e w1 ⟨A2, c2, rfl, hc2, hC2, hb⟩; have HC2 := Aside0.mk hc2; have HK2 := Aside0.mk hC2; (try have HK1 := Aside0.mk (Kd.C_below HK1.out hb)); clear hc2 hC2) | (go_at_call 12; refine (middenlaw21_sameConfigs.calls (L.length + 1) A1 c1 L A2 c2 L true _ HK1.out HC1.out HK2.out HC2.out HS.out).mono ?_; rintro e w3 ⟨rfl, hd⟩; have hb := hd.below))
  all_goals
    go_wp2
    go_ret
    exact ⟨rfl, (hs _ (by assumption)).out⟩
end Go.Proofs.Ytfphmkdcjbokeaa.grids
