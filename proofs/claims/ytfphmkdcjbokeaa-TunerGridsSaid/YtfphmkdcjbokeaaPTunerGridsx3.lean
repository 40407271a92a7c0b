-- PRINTED BY print.sh 35421559b90ae4d0a3588c463048766b98c2df88dd9212a6774a882060cdf62d: not written by this session
import Derived.Test.YtfphmkdcjbokeaaPTunerGridsx0
import Derived.Test.YtfphmkdcjbokeaaPTunerGridsx2
namespace Go.Proofs.Ytfphmkdcjbokeaa.PTunerGrids
open Go.RowKit Go.Proofs.YtfphmkdcjbokeaaW.PrintWords Go.Proofs.YtfphmkdcjbokeaaW.PrintLast Go.Proofs.YtfphmkdcjbokeaaW.PrintMore
attribute [local go_sem] max2_int min2_int max_two min_two max_three min_three max_four min_four   -- for this text's walks alone
set_option linter.unusedVariables false
set_option linter.unusedSimpArgs false

/-! ### arena_Valid: function 15 -/
mutual
def arena_Valid.j0 : Nat → Bool → Int → Int → Int → Int → Int → Int → Int → Int → Int → Int → Int → Int → Int → Int → Option (Bool)
  | 0, _, _, _, _, _, _, _, _, _, _, _, _, _, _, _ => none
  | k + 1, x3, x104000, x104001, x104002, x104003, x104004, x104005, x104006, x104007, x104008, x104009, x104010, x104011, x104012, x104013 => (arena_within.f x104003 2 65536).bind fun t107 => (if t107 = true then ((arena_within.f x104004 0 65536).bind fun t108 => (if t108 = true then ((arena_within.f x104006 1 65536).bind fun t109 => (if t109 = true then ((arena_within.f x104005 x104006 65536).bind fun t110 => (arena_Valid.j1 k x3 t110 x104000 x104001 x104002 x104003 x104004 x104005 x104006 x104007 x104008 x104009 x104010 x104011 x104012 x104013)) else (arena_Valid.j1 k x3 false x104000 x104001 x104002 x104003 x104004 x104005 x104006 x104007 x104008 x104009 x104010 x104011 x104012 x104013))) else (arena_Valid.j1 k x3 false x104000 x104001 x104002 x104003 x104004 x104005 x104006 x104007 x104008 x104009 x104010 x104011 x104012 x104013))) else (arena_Valid.j1 k x3 false x104000 x104001 x104002 x104003 x104004 x104005 x104006 x104007 x104008 x104009 x104010 x104011 x104012 x104013))
def arena_Valid.j1 : Nat → Bool → Bool → Int → Int → Int → Int → Int → Int → Int → Int → Int → Int → Int → Int → Int → Int → Option (Bool)
  | 0, _, _, _, _, _, _, _, _, _, _, _, _, _, _, _, _ => none
  | k + 1, x3, x4, x104000, x104001, x104002, x104003, x104004, x104005, x104006, x104007, x104008, x104009, x104010, x104011, x104012, x104013 => (arena_within.f x104007 1 100).bind fun t111 => (if t111 = true then ((arena_within.f x104008 1 15).bind fun t112 => (arena_Valid.j2 k x3 x4 t112 x104000 x104001 x104002 x104003 x104004 x104005 x104006 x104007 x104008 x104009 x104010 x104011 x104012 x104013)) else (arena_Valid.j2 k x3 x4 false x104000 x104001 x104002 x104003 x104004 x104005 x104006 x104007 x104008 x104009 x104010 x104011 x104012 x104013))
def arena_Valid.j2 : Nat → Bool → Bool → Bool → Int → Int → Int → Int → Int → Int → Int → Int → Int → Int → Int → Int → Int → Int → Option (Bool)
  | 0, _, _, _, _, _, _, _, _, _, _, _, _, _, _, _, _, _ => none
  | k + 1, x3, x4, x5, x104000, x104001, x104002, x104003, x104004, x104005, x104006, x104007, x104008, x104009, x104010, x104011, x104012, x104013 => (arena_within.f x104009 1 8).bind fun t113 => (if t113 = true then ((arena_within.f x104010 1 4096).bind fun t114 => (if t114 = true then ((arena_within.f x104011 0 1024).bind fun t115 => (if x3 = true then (if x4 = true then (if x5 = true then (if t115 = true then ((arena_within.f x104012 0 x104000).bind fun t116 => (if t116 = true then ((arena_within.f x104013 1 8).bind fun t117 => (some t117)) else (some false))) else (some false)) else (some false)) else (some false)) else (some false))) else (if x3 = true then (if x4 = true then (if x5 = true then (some false) else (some false)) else (some false)) else (some false)))) else (if x3 = true then (if x4 = true then (if x5 = true then (some false) else (some false)) else (some false)) else (some false)))
end
def arena_Valid.f (k : Nat) (a0_0 : Int) (a0_1 : Int) (a0_2 : Int) (a0_3 : Int) (a0_4 : Int) (a0_5 : Int) (a0_6 : Int) (a0_7 : Int) (a0_8 : Int) (a0_9 : Int) (a0_10 : Int) (a0_11 : Int) (a0_12 : Int) (a0_13 : Int) : Option (Bool) := (arena_within.f a0_0 64 65536).bind fun t104 => (if t104 = true then ((arena_within.f a0_1 64 65536).bind fun t105 => (if t105 = true then ((arena_within.f a0_2 64 65536).bind fun t106 => (arena_Valid.j0 k t106 a0_0 a0_1 a0_2 a0_3 a0_4 a0_5 a0_6 a0_7 a0_8 a0_9 a0_10 a0_11 a0_12 a0_13)) else (arena_Valid.j0 k false a0_0 a0_1 a0_2 a0_3 a0_4 a0_5 a0_6 a0_7 a0_8 a0_9 a0_10 a0_11 a0_12 a0_13))) else (arena_Valid.j0 k false a0_0 a0_1 a0_2 a0_3 a0_4 a0_5 a0_6 a0_7 a0_8 a0_9 a0_10 a0_11 a0_12 a0_13))
theorem arena_Valid.mono_l : ∀ k, (∀ y0 y1 y2 y3 y4 y5 y6 y7 y8 y9 y10 y11 y12 y13 y14, LeO (arena_Valid.j0 k y0 y1 y2 y3 y4 y5 y6 y7 y8 y9 y10 y11 y12 y13 y14) (arena_Valid.j0 (k + 1) y0 y1 y2 y3 y4 y5 y6 y7 y8 y9 y10 y11 y12 y13 y14)) ∧ (∀ y0 y1 y2 y3 y4 y5 y6 y7 y8 y9 y10 y11 y12 y13 y14 y15, LeO (arena_Valid.j1 k y0 y1 y2 y3 y4 y5 y6 y7 y8 y9 y10 y11 y12 y13 y14 y15) (arena_Valid.j1 (k + 1) y0 y1 y2 y3 y4 y5 y6 y7 y8 y9 y10 y11 y12 y13 y14 y15)) ∧ (∀ y0 y1 y2 y3 y4 y5 y6 y7 y8 y9 y10 y11 y12 y13 y14 y15 y16, LeO (arena_Valid.j2 k y0 y1 y2 y3 y4 y5 y6 y7 y8 y9 y10 y11 y12 y13 y14 y15 y16) (arena_Valid.j2 (k + 1) y0 y1 y2 y3 y4 y5 y6 y7 y8 y9 y10 y11 y12 y13 y14 y15 y16))
  | 0 => ⟨fun _ _ _ _ _ _ _ _ _ _ _ _ _ _ _ r h => by simp [arena_Valid.j0] at h, fun _ _ _ _ _ _ _ _ _ _ _ _ _ _ _ _ r h => by simp [arena_Valid.j1] at h, fun _ _ _ _ _ _ _ _ _ _ _ _ _ _ _ _ _ r h => by simp [arena_Valid.j2] at h⟩
  | k + 1 => by
    obtain ⟨ih0, ih1, ih2⟩ := arena_Valid.mono_l k
    refine ⟨?_, ?_, ?_⟩
    · intro y0 y1 y2 y3 y4 y5 y6 y7 y8 y9 y10 y11 y12 y13 y14
      unfold arena_Valid.j0
      repeat' first
      | (with_reducible exact ih0 _ _ _ _ _ _ _ _ _ _ _ _ _ _ _)
      | (with_reducible exact ih1 _ _ _ _ _ _ _ _ _ _ _ _ _ _ _ _)
      | (with_reducible exact ih2 _ _ _ _ _ _ _ _ _ _ _ _ _ _ _ _ _)
      | (with_reducible exact LeO.refl _)
      | (with_reducible exact LeO.none _)
      | (with_reducible refine LeO.ite ?_ ?_)
      | (with_reducible refine LeO.bind ?_ (fun _ => ?_))
      | exact ih0 _ _ _ _ _ _ _ _ _ _ _ _ _ _ _
      | exact ih1 _ _ _ _ _ _ _ _ _ _ _ _ _ _ _ _
      | exact ih2 _ _ _ _ _ _ _ _ _ _ _ _ _ _ _ _ _
      | exact LeO.none _
      | refine LeO.ite ?_ ?_
      | refine LeO.bind ?_ (fun _ => ?_)
    · intro y0 y1 y2 y3 y4 y5 y6 y7 y8 y9 y10 y11 y12 y13 y14 y15
      unfold arena_Valid.j1
      repeat' first
      | (with_reducible exact ih0 _ _ _ _ _ _ _ _ _ _ _ _ _ _ _)
      | (with_reducible exact ih1 _ _ _ _ _ _ _ _ _ _ _ _ _ _ _ _)
      | (with_reducible exact ih2 _ _ _ _ _ _ _ _ _ _ _ _ _ _ _ _ _)
      | (with_reducible exact LeO.refl _)
      | (with_reducible exact LeO.none _)
      | (with_reducible refine LeO.ite ?_ ?_)
      | (with_reducible refine LeO.bind ?_ (fun _ => ?_))
      | exact ih0 _ _ _ _ _ _ _ _ _ _ _ _ _ _ _
      | exact ih1 _ _ _ _ _ _ _ _ _ _ _ _ _ _ _ _
      | exact ih2 _ _ _ _ _ _ _ _ _ _ _ _ _ _ _ _ _
      | exact LeO.none _
      | refine LeO.ite ?_ ?_
      | refine LeO.bind ?_ (fun _ => ?_)
    · intro y0 y1 y2 y3 y4 y5 y6 y7 y8 y9 y10 y11 y12 y13 y14 y15 y16
      unfold arena_Valid.j2
      repeat' first
      | (with_reducible exact ih0 _ _ _ _ _ _ _ _ _ _ _ _ _ _ _)
      | (with_reducible exact ih1 _ _ _ _ _ _ _ _ _ _ _ _ _ _ _ _)
      | (with_reducible exact ih2 _ _ _ _ _ _ _ _ _ _ _ _ _ _ _ _ _)
      | (with_reducible exact LeO.refl _)
      | (with_reducible exact LeO.none _)
      | (with_reducible refine LeO.ite ?_ ?_)
      | (with_reducible refine LeO.bind ?_ (fun _ => ?_))
      | exact ih0 _ _ _ _ _ _ _ _ _ _ _ _ _ _ _
      | exact ih1 _ _ _ _ _ _ _ _ _ _ _ _ _ _ _ _
      | exact ih2 _ _ _ _ _ _ _ _ _ _ _ _ _ _ _ _ _
      | exact LeO.none _
      | refine LeO.ite ?_ ?_
      | refine LeO.bind ?_ (fun _ => ?_)
theorem arena_Valid.mono : ∀ a0 a1 a2 a3 a4 a5 a6 a7 a8 a9 a10 a11 a12 a13 k, LeO (arena_Valid.f k a0 a1 a2 a3 a4 a5 a6 a7 a8 a9 a10 a11 a12 a13) (arena_Valid.f (k + 1) a0 a1 a2 a3 a4 a5 a6 a7 a8 a9 a10 a11 a12 a13) := by
  intro a0 a1 a2 a3 a4 a5 a6 a7 a8 a9 a10 a11 a12 a13 k
  obtain ⟨ih0, ih1, ih2⟩ := arena_Valid.mono_l k
  unfold arena_Valid.f
  repeat' first
      | (with_reducible exact ih0 _ _ _ _ _ _ _ _ _ _ _ _ _ _ _)
      | (with_reducible exact ih1 _ _ _ _ _ _ _ _ _ _ _ _ _ _ _ _)
      | (with_reducible exact ih2 _ _ _ _ _ _ _ _ _ _ _ _ _ _ _ _ _)
      | (with_reducible exact LeO.refl _)
      | (with_reducible exact LeO.none _)
      | (with_reducible refine LeO.ite ?_ ?_)
      | (with_reducible refine LeO.bind ?_ (fun _ => ?_))
      | exact ih0 _ _ _ _ _ _ _ _ _ _ _ _ _ _ _
      | exact ih1 _ _ _ _ _ _ _ _ _ _ _ _ _ _ _ _
      | exact ih2 _ _ _ _ _ _ _ _ _ _ _ _ _ _ _ _ _
      | exact LeO.none _
      | refine LeO.ite ?_ ?_
      | refine LeO.bind ?_ (fun _ => ?_)
set_option maxHeartbeats 8000000 in
set_option maxRecDepth 100000 in
theorem arena_Valid.calls (k : Nat) (a0_0 : Int) (a0_1 : Int) (a0_2 : Int) (a0_3 : Int) (a0_4 : Int) (a0_5 : Int) (a0_6 : Int) (a0_7 : Int) (a0_8 : Int) (a0_9 : Int) (a0_10 : Int) (a0_11 : Int) (a0_12 : Int) (a0_13 : Int) (r : Bool) (w : World) (h : arena_Valid.f k a0_0 a0_1 a0_2 a0_3 a0_4 a0_5 a0_6 a0_7 a0_8 a0_9 a0_10 a0_11 a0_12 a0_13 = some r) :
    Calls Try.prog 15 #[.agg #[.int .i64 a0_0, .int .i64 a0_1, .int .i64 a0_2, .int .i64 a0_3, .int .i64 a0_4, .int .i64 a0_5, .int .i64 a0_6, .int .i64 a0_7, .int .i64 a0_8, .int .i64 a0_9, .int .i64 a0_10, .int .i64 a0_11, .int .i64 a0_12, .int .i64 a0_13]] w fun e w' => e = .returned (.bool r) ∧ Below w.heap.size w w' := by
  have hu29 := Try.underlying29
  have HB := Aside0.mk (Below.refl w.heap.size w)
  have H : ((arena_within.f a0_0 64 65536).bind fun t104 => (if t104 = true then ((arena_within.f a0_1 64 65536).bind fun t105 => (if t105 = true then ((arena_within.f a0_2 64 65536).bind fun t106 => (arena_Valid.j0 k t106 a0_0 a0_1 a0_2 a0_3 a0_4 a0_5 a0_6 a0_7 a0_8 a0_9 a0_10 a0_11 a0_12 a0_13)) else (arena_Valid.j0 k false a0_0 a0_1 a0_2 a0_3 a0_4 a0_5 a0_6 a0_7 a0_8 a0_9 a0_10 a0_11 a0_12 a0_13))) else (arena_Valid.j0 k false a0_0 a0_1 a0_2 a0_3 a0_4 a0_5 a0_6 a0_7 a0_8 a0_9 a0_10 a0_11 a0_12 a0_13))) = some r := h
  clear h
  have HC2 := Aside0.mk H
  clear H
  go_enter Try.func15, Try.ntmps15
  go_upto_region 1 with (first | ((with_reducible refine gate_dst (N := 1) rfl ?_); refine box_event ?hg (N := 1) ?hd (cs := #[.int .i64 a0_0, .int .i64 a0_1, .int .i64 a0_2, .int .i64 a0_3, .int .i64 a0_4, .int .i64 a0_5, .int .i64 a0_6, .int .i64 a0_7, .int .i64 a0_8, .int .i64 a0_9, .int .i64 a0_10, .int .i64 a0_11, .int .i64 a0_12, .int .i64 a0_13]) (t := 29) ?hr ?_; (case hd => rfl); (case hg => rfl); (case hr => first | (go_simp; done) | (go_simp; rfl)); intro gb103 hg w3 hbox hb; have n0_ := Aside0.mk (below_step (by repeat (first | (with_reducible first | exact HB.out | apply below_alloc | apply pw_below_drewN | apply below_drew1) | exact HB.out)) hb); have n1_ := Aside0.mk (hbox); have n2_ := Aside0.mk ((by rw [hg]; exact (below_size (by repeat (first | (with_reducible first | exact HB.out | apply below_alloc | apply pw_below_drewN | apply below_drew1) | exact HB.out))) : w.heap.size ≤ gb103)); have n3_ := Aside0.mk ((by rw [hg]; exact (below_size (by repeat (first | (with_reducible first | exact HB.out | apply below_alloc | apply pw_below_drewN | apply below_drew1) | exact HB.out))) : w.heap.size ≤ gb103)); clear HB; have HB := n0_; have BK103 := n1_; have GW103 := n2_; have GE103 := n3_; clear n0_ n1_ n2_ n3_; clear hb hbox hg))
  (try simp only [Act.put, List.setIfInBounds_toArray, List.set_cons_zero, List.set_cons_succ])
  go_cut [3] (fun v3 wc => ∃ (kq : Nat) (x3_1 : Bool), v3 = .bool x3_1 ∧ Aside0 (arena_Valid.j0 kq x3_1 a0_0 a0_1 a0_2 a0_3 a0_4 a0_5 a0_6 a0_7 a0_8 a0_9 a0_10 a0_11 a0_12 a0_13 = some r) ∧ Aside0 (kq ≤ k) ∧ Aside0 (wc.heap[gb103]? = some (.cells #[.int .i64 a0_0, .int .i64 a0_1, .int .i64 a0_2, .int .i64 a0_3, .int .i64 a0_4, .int .i64 a0_5, .int .i64 a0_6, .int .i64 a0_7, .int .i64 a0_8, .int .i64 a0_9, .int .i64 a0_10, .int .i64 a0_11, .int .i64 a0_12, .int .i64 a0_13] 29 (0, 0))) ∧ Aside0 (Below w.heap.size w wc))
  case first =>
    have H := HC2.out
    clear HC2
    replace H := Option.bind_eq_some_iff.mp H
    obtain ⟨t104, A40, H⟩ := H
    replace H : (if t104 = true then ((arena_within.f a0_1 64 65536).bind fun t105 => (if t105 = true then ((arena_within.f a0_2 64 65536).bind fun t106 => (arena_Valid.j0 k t106 a0_0 a0_1 a0_2 a0_3 a0_4 a0_5 a0_6 a0_7 a0_8 a0_9 a0_10 a0_11 a0_12 a0_13)) else (arena_Valid.j0 k false a0_0 a0_1 a0_2 a0_3 a0_4 a0_5 a0_6 a0_7 a0_8 a0_9 a0_10 a0_11 a0_12 a0_13))) else (arena_Valid.j0 k false a0_0 a0_1 a0_2 a0_3 a0_4 a0_5 a0_6 a0_7 a0_8 a0_9 a0_10 a0_11 a0_12 a0_13)) = some r := H
    have A4 := Aside0.mk A40
    clear A40
    by_cases c5 : t104 = true
    · subst c5
      have H1 : ((arena_within.f a0_1 64 65536).bind fun t105 => (if t105 = true then ((arena_within.f a0_2 64 65536).bind fun t106 => (arena_Valid.j0 k t106 a0_0 a0_1 a0_2 a0_3 a0_4 a0_5 a0_6 a0_7 a0_8 a0_9 a0_10 a0_11 a0_12 a0_13)) else (arena_Valid.j0 k false a0_0 a0_1 a0_2 a0_3 a0_4 a0_5 a0_6 a0_7 a0_8 a0_9 a0_10 a0_11 a0_12 a0_13))) = some r := by rw [if_pos rfl] at H; exact H
      clear H
      have H := H1
      clear H1
      replace H := Option.bind_eq_some_iff.mp H
      obtain ⟨t105, A60, H⟩ := H
      replace H : (if t105 = true then ((arena_within.f a0_2 64 65536).bind fun t106 => (arena_Valid.j0 k t106 a0_0 a0_1 a0_2 a0_3 a0_4 a0_5 a0_6 a0_7 a0_8 a0_9 a0_10 a0_11 a0_12 a0_13)) else (arena_Valid.j0 k false a0_0 a0_1 a0_2 a0_3 a0_4 a0_5 a0_6 a0_7 a0_8 a0_9 a0_10 a0_11 a0_12 a0_13)) = some r := H
      have A6 := Aside0.mk A60
      clear A60
      by_cases c7 : t105 = true
      · subst c7
        have H1 : ((arena_within.f a0_2 64 65536).bind fun t106 => (arena_Valid.j0 k t106 a0_0 a0_1 a0_2 a0_3 a0_4 a0_5 a0_6 a0_7 a0_8 a0_9 a0_10 a0_11 a0_12 a0_13)) = some r := by rw [if_pos rfl] at H; exact H
        clear H
        have H := H1
        clear H1
        replace H := Option.bind_eq_some_iff.mp H
        obtain ⟨t106, A80, H⟩ := H
        replace H : (arena_Valid.j0 k t106 a0_0 a0_1 a0_2 a0_3 a0_4 a0_5 a0_6 a0_7 a0_8 a0_9 a0_10 a0_11 a0_12 a0_13) = some r := H
        have A8 := Aside0.mk A80
        clear A80
        have H' := Aside0.mk H
        clear H
        have hcz9_0 : w3.cell? ⟨gb103, 0, none⟩ = some (.int .i64 a0_0) := (blk_cell BK103.out 0).trans rfl
        have hcz9_1 : w3.cell? ⟨gb103, 1, none⟩ = some (.int .i64 a0_1) := (blk_cell BK103.out 1).trans rfl
        have hcz9_2 : w3.cell? ⟨gb103, 2, none⟩ = some (.int .i64 a0_2) := (blk_cell BK103.out 2).trans rfl
        have hcz9_3 : w3.cell? ⟨gb103, 3, none⟩ = some (.int .i64 a0_3) := (blk_cell BK103.out 3).trans rfl
        have hcz9_4 : w3.cell? ⟨gb103, 4, none⟩ = some (.int .i64 a0_4) := (blk_cell BK103.out 4).trans rfl
        have hcz9_5 : w3.cell? ⟨gb103, 5, none⟩ = some (.int .i64 a0_5) := (blk_cell BK103.out 5).trans rfl
        have hcz9_6 : w3.cell? ⟨gb103, 6, none⟩ = some (.int .i64 a0_6) := (blk_cell BK103.out 6).trans rfl
        have hcz9_7 : w3.cell? ⟨gb103, 7, none⟩ = some (.int .i64 a0_7) := (blk_cell BK103.out 7).trans rfl
        have hcz9_8 : w3.cell? ⟨gb103, 8, none⟩ = some (.int .i64 a0_8) := (blk_cell BK103.out 8).trans rfl
        have hcz9_9 : w3.cell? ⟨gb103, 9, none⟩ = some (.int .i64 a0_9) := (blk_cell BK103.out 9).trans rfl
        have hcz9_10 : w3.cell? ⟨gb103, 10, none⟩ = some (.int .i64 a0_10) := (blk_cell BK103.out 10).trans rfl
        have hcz9_11 : w3.cell? ⟨gb103, 11, none⟩ = some (.int .i64 a0_11) := (blk_cell BK103.out 11).trans rfl
        have hcz9_12 : w3.cell? ⟨gb103, 12, none⟩ = some (.int .i64 a0_12) := (blk_cell BK103.out 12).trans rfl
        have hcz9_13 : w3.cell? ⟨gb103, 13, none⟩ = some (.int .i64 a0_13) := (blk_cell BK103.out 13).trans rfl
        have hfz9_0 := blk_frozen BK103.out 0
        have hfz9_1 := blk_frozen BK103.out 1
        have hfz9_2 := blk_frozen BK103.out 2
        have hfz9_3 := blk_frozen BK103.out 3
        have hfz9_4 := blk_frozen BK103.out 4
        have hfz9_5 := blk_frozen BK103.out 5
        have hfz9_6 := blk_frozen BK103.out 6
        have hfz9_7 := blk_frozen BK103.out 7
        have hfz9_8 := blk_frozen BK103.out 8
        have hfz9_9 := blk_frozen BK103.out 9
        have hfz9_10 := blk_frozen BK103.out 10
        have hfz9_11 := blk_frozen BK103.out 11
        have hfz9_12 := blk_frozen BK103.out 12
        have hfz9_13 := blk_frozen BK103.out 13
        go_wp2_with (first | ((with_reducible refine gate_callee (f := 19) rfl ?_); refine goesL_ (some 9) rfl rfl Try.func19 (by kernel_rfl) rfl #[.int .i64 a0_0, .int .i64 64, .int .i64 65536] rfl (by (try simp only [List.map_toArray, List.map_cons, List.map_nil]); first | done | rfl | (simp only [List.length_drop, List.length_take]; rfl)) ?_; (with_reducible refine (arena_within.calls a0_0 64 65536 true _ A4.out).mono ?_); rintro e w' ⟨rfl, ⟨nd, rfl⟩⟩; refine ⟨_, rfl, ?_⟩) | (go_at_call 19; (with_reducible refine (arena_within.calls a0_1 64 65536 true _ A6.out).mono ?_); rintro e w' ⟨rfl, ⟨nd, rfl⟩⟩) | (go_at_call 19; (with_reducible refine (arena_within.calls a0_2 64 65536 t106 _ A8.out).mono ?_); rintro e w' ⟨rfl, ⟨nd, rfl⟩⟩))
        go_meet
        case rel => exact ⟨_, (t106), (by first | rfl | (simp; done) | (simp [*]; done)), H', ⟨by first | omega | exact Nat.le_refl _⟩, ⟨by (with_reducible repeat (first | refine blk_drewN ?_ _ | refine blk_drew ?_ | refine blk_alloc ?_ _)); exact BK103.out⟩, ⟨by repeat (first | (with_reducible first | exact HB.out | apply below_alloc | apply pw_below_drewN | apply below_drew1 | refine below_set ?_ GE103.out) | exact HB.out)⟩⟩
      · replace c7 := Bool.eq_false_iff.mpr c7
        subst c7
        have H1 : (arena_Valid.j0 k false a0_0 a0_1 a0_2 a0_3 a0_4 a0_5 a0_6 a0_7 a0_8 a0_9 a0_10 a0_11 a0_12 a0_13) = some r := by rw [if_neg (show ¬ (false = true) by decide)] at H; exact H
        clear H
        have H := H1
        clear H1
        have H' := Aside0.mk H
        clear H
        have hcz10_0 : w3.cell? ⟨gb103, 0, none⟩ = some (.int .i64 a0_0) := (blk_cell BK103.out 0).trans rfl
        have hcz10_1 : w3.cell? ⟨gb103, 1, none⟩ = some (.int .i64 a0_1) := (blk_cell BK103.out 1).trans rfl
        have hcz10_2 : w3.cell? ⟨gb103, 2, none⟩ = some (.int .i64 a0_2) := (blk_cell BK103.out 2).trans rfl
        have hcz10_3 : w3.cell? ⟨gb103, 3, none⟩ = some (.int .i64 a0_3) := (blk_cell BK103.out 3).trans rfl
        have hcz10_4 : w3.cell? ⟨gb103, 4, none⟩ = some (.int .i64 a0_4) := (blk_cell BK103.out 4).trans rfl
        have hcz10_5 : w3.cell? ⟨gb103, 5, none⟩ = some (.int .i64 a0_5) := (blk_cell BK103.out 5).trans rfl
        have hcz10_6 : w3.cell? ⟨gb103, 6, none⟩ = some (.int .i64 a0_6) := (blk_cell BK103.out 6).trans rfl
        have hcz10_7 : w3.cell? ⟨gb103, 7, none⟩ = some (.int .i64 a0_7) := (blk_cell BK103.out 7).trans rfl
        have hcz10_8 : w3.cell? ⟨gb103, 8, none⟩ = some (.int .i64 a0_8) := (blk_cell BK103.out 8).trans rfl
        have hcz10_9 : w3.cell? ⟨gb103, 9, none⟩ = some (.int .i64 a0_9) := (blk_cell BK103.out 9).trans rfl
        have hcz10_10 : w3.cell? ⟨gb103, 10, none⟩ = some (.int .i64 a0_10) := (blk_cell BK103.out 10).trans rfl
        have hcz10_11 : w3.cell? ⟨gb103, 11, none⟩ = some (.int .i64 a0_11) := (blk_cell BK103.out 11).trans rfl
        have hcz10_12 : w3.cell? ⟨gb103, 12, none⟩ = some (.int .i64 a0_12) := (blk_cell BK103.out 12).trans rfl
        have hcz10_13 : w3.cell? ⟨gb103, 13, none⟩ = some (.int .i64 a0_13) := (blk_cell BK103.out 13).trans rfl
        have hfz10_0 := blk_frozen BK103.out 0
        have hfz10_1 := blk_frozen BK103.out 1
        have hfz10_2 := blk_frozen BK103.out 2
        have hfz10_3 := blk_frozen BK103.out 3
        have hfz10_4 := blk_frozen BK103.out 4
        have hfz10_5 := blk_frozen BK103.out 5
        have hfz10_6 := blk_frozen BK103.out 6
        have hfz10_7 := blk_frozen BK103.out 7
        have hfz10_8 := blk_frozen BK103.out 8
        have hfz10_9 := blk_frozen BK103.out 9
        have hfz10_10 := blk_frozen BK103.out 10
        have hfz10_11 := blk_frozen BK103.out 11
        have hfz10_12 := blk_frozen BK103.out 12
        have hfz10_13 := blk_frozen BK103.out 13
        go_wp2_with (first | ((with_reducible refine gate_callee (f := 19) rfl ?_); refine goesL_ (some 9) rfl rfl Try.func19 (by kernel_rfl) rfl #[.int .i64 a0_0, .int .i64 64, .int .i64 65536] rfl (by (try simp only [List.map_toArray, List.map_cons, List.map_nil]); first | done | rfl | (simp only [List.length_drop, List.length_take]; rfl)) ?_; (with_reducible refine (arena_within.calls a0_0 64 65536 true _ A4.out).mono ?_); rintro e w' ⟨rfl, ⟨nd, rfl⟩⟩; refine ⟨_, rfl, ?_⟩) | (go_at_call 19; (with_reducible refine (arena_within.calls a0_1 64 65536 false _ A6.out).mono ?_); rintro e w' ⟨rfl, ⟨nd, rfl⟩⟩))
        go_meet
        case rel => exact ⟨_, (false), (by first | rfl | (simp; done) | (simp [*]; done)), H', ⟨by first | omega | exact Nat.le_refl _⟩, ⟨by (with_reducible repeat (first | refine blk_drewN ?_ _ | refine blk_drew ?_ | refine blk_alloc ?_ _)); exact BK103.out⟩, ⟨by repeat (first | (with_reducible first | exact HB.out | apply below_alloc | apply pw_below_drewN | apply below_drew1 | refine below_set ?_ GE103.out) | exact HB.out)⟩⟩
    · replace c5 := Bool.eq_false_iff.mpr c5
      subst c5
      have H1 : (arena_Valid.j0 k false a0_0 a0_1 a0_2 a0_3 a0_4 a0_5 a0_6 a0_7 a0_8 a0_9 a0_10 a0_11 a0_12 a0_13) = some r := by rw [if_neg (show ¬ (false = true) by decide)] at H; exact H
      clear H
      have H := H1
      clear H1
      have H' := Aside0.mk H
      clear H
      have hcz11_0 : w3.cell? ⟨gb103, 0, none⟩ = some (.int .i64 a0_0) := (blk_cell BK103.out 0).trans rfl
      have hcz11_1 : w3.cell? ⟨gb103, 1, none⟩ = some (.int .i64 a0_1) := (blk_cell BK103.out 1).trans rfl
      have hcz11_2 : w3.cell? ⟨gb103, 2, none⟩ = some (.int .i64 a0_2) := (blk_cell BK103.out 2).trans rfl
      have hcz11_3 : w3.cell? ⟨gb103, 3, none⟩ = some (.int .i64 a0_3) := (blk_cell BK103.out 3).trans rfl
      have hcz11_4 : w3.cell? ⟨gb103, 4, none⟩ = some (.int .i64 a0_4) := (blk_cell BK103.out 4).trans rfl
      have hcz11_5 : w3.cell? ⟨gb103, 5, none⟩ = some (.int .i64 a0_5) := (blk_cell BK103.out 5).trans rfl
      have hcz11_6 : w3.cell? ⟨gb103, 6, none⟩ = some (.int .i64 a0_6) := (blk_cell BK103.out 6).trans rfl
      have hcz11_7 : w3.cell? ⟨gb103, 7, none⟩ = some (.int .i64 a0_7) := (blk_cell BK103.out 7).trans rfl
      have hcz11_8 : w3.cell? ⟨gb103, 8, none⟩ = some (.int .i64 a0_8) := (blk_cell BK103.out 8).trans rfl
      have hcz11_9 : w3.cell? ⟨gb103, 9, none⟩ = some (.int .i64 a0_9) := (blk_cell BK103.out 9).trans rfl
      have hcz11_10 : w3.cell? ⟨gb103, 10, none⟩ = some (.int .i64 a0_10) := (blk_cell BK103.out 10).trans rfl
      have hcz11_11 : w3.cell? ⟨gb103, 11, none⟩ = some (.int .i64 a0_11) := (blk_cell BK103.out 11).trans rfl
      have hcz11_12 : w3.cell? ⟨gb103, 12, none⟩ = some (.int .i64 a0_12) := (blk_cell BK103.out 12).trans rfl
      have hcz11_13 : w3.cell? ⟨gb103, 13, none⟩ = some (.int .i64 a0_13) := (blk_cell BK103.out 13).trans rfl
      have hfz11_0 := blk_frozen BK103.out 0
      have hfz11_1 := blk_frozen BK103.out 1
      have hfz11_2 := blk_frozen BK103.out 2
      have hfz11_3 := blk_frozen BK103.out 3
      have hfz11_4 := blk_frozen BK103.out 4
      have hfz11_5 := blk_frozen BK103.out 5
      have hfz11_6 := blk_frozen BK103.out 6
      have hfz11_7 := blk_frozen BK103.out 7
      have hfz11_8 := blk_frozen BK103.out 8
      have hfz11_9 := blk_frozen BK103.out 9
      have hfz11_10 := blk_frozen BK103.out 10
      have hfz11_11 := blk_frozen BK103.out 11
      have hfz11_12 := blk_frozen BK103.out 12
      have hfz11_13 := blk_frozen BK103.out 13
      go_wp2_with (first | ((with_reducible refine gate_callee (f := 19) rfl ?_); refine goesL_ (some 9) rfl rfl Try.func19 (by kernel_rfl) rfl #[.int .i64 a0_0, .int .i64 64, .int .i64 65536] rfl (by (try simp only [List.map_toArray, List.map_cons, List.map_nil]); first | done | rfl | (simp only [List.length_drop, List.length_take]; rfl)) ?_; (with_reducible refine (arena_within.calls a0_0 64 65536 false _ A4.out).mono ?_); rintro e w' ⟨rfl, ⟨nd, rfl⟩⟩; refine ⟨_, rfl, ?_⟩))
      go_meet
      case rel => exact ⟨_, (false), (by first | rfl | (simp; done) | (simp [*]; done)), H', ⟨by first | omega | exact Nat.le_refl _⟩, ⟨by (with_reducible repeat (first | refine blk_drewN ?_ _ | refine blk_drew ?_ | refine blk_alloc ?_ _)); exact BK103.out⟩, ⟨by repeat (first | (with_reducible first | exact HB.out | apply below_alloc | apply pw_below_drewN | apply below_drew1 | refine below_set ?_ GE103.out) | exact HB.out)⟩⟩
  case rest =>
    clear HC2
    try clear c1
    try clear p2
    try clear c5
    try clear c7
    try clear hcz10_0
    try clear hcz10_1
    try clear hcz10_10
    try clear hcz10_11
    try clear hcz10_12
    try clear hcz10_13
    try clear hcz10_2
    try clear hcz10_3
    try clear hcz10_4
    try clear hcz10_5
    try clear hcz10_6
    try clear hcz10_7
    try clear hcz10_8
    try clear hcz10_9
    try clear hcz11_0
    try clear hcz11_1
    try clear hcz11_10
    try clear hcz11_11
    try clear hcz11_12
    try clear hcz11_13
    try clear hcz11_2
    try clear hcz11_3
    try clear hcz11_4
    try clear hcz11_5
    try clear hcz11_6
    try clear hcz11_7
    try clear hcz11_8
    try clear hcz11_9
    try clear hcz9_0
    try clear hcz9_1
    try clear hcz9_10
    try clear hcz9_11
    try clear hcz9_12
    try clear hcz9_13
    try clear hcz9_2
    try clear hcz9_3
    try clear hcz9_4
    try clear hcz9_5
    try clear hcz9_6
    try clear hcz9_7
    try clear hcz9_8
    try clear hcz9_9
    try clear hfz10_0
    try clear hfz10_1
    try clear hfz10_10
    try clear hfz10_11
    try clear hfz10_12
    try clear hfz10_13
    try clear hfz10_2
    try clear hfz10_3
    try clear hfz10_4
    try clear hfz10_5
    try clear hfz10_6
    try clear hfz10_7
    try clear hfz10_8
    try clear hfz10_9
    try clear hfz11_0
    try clear hfz11_1
    try clear hfz11_10
    try clear hfz11_11
    try clear hfz11_12
    try clear hfz11_13
    try clear hfz11_2
    try clear hfz11_3
    try clear hfz11_4
    try clear hfz11_5
    try clear hfz11_6
    try clear hfz11_7
    try clear hfz11_8
    try clear hfz11_9
    try clear hfz9_0
    try clear hfz9_1
    try clear hfz9_10
    try clear hfz9_11
    try clear hfz9_12
    try clear hfz9_13
    try clear hfz9_2
    try clear hfz9_3
    try clear hfz9_4
    try clear hfz9_5
    try clear hfz9_6
    try clear hfz9_7
    try clear hfz9_8
    try clear hfz9_9
    obtain ⟨kq, x3_1, rfl, HA, HJ1, BK103, HB⟩ := hcut
    cases kq with
    | zero => exact absurd HA.out (by simp [arena_Valid.j0])
    | succ kj1 =>
      have H := HA.out
      clear HA
      simp only [arena_Valid.j0] at H
      have HC12 := Aside0.mk H
      clear H
      go_upto_region 2 with (fail)
      go_cut [4] (fun v4 wc => ∃ (kq : Nat) (x4_11 : Bool), v4 = .bool x4_11 ∧ Aside0 (arena_Valid.j1 kq x3_1 x4_11 a0_0 a0_1 a0_2 a0_3 a0_4 a0_5 a0_6 a0_7 a0_8 a0_9 a0_10 a0_11 a0_12 a0_13 = some r) ∧ Aside0 (kq ≤ kj1) ∧ Aside0 (wc.heap[gb103]? = some (.cells #[.int .i64 a0_0, .int .i64 a0_1, .int .i64 a0_2, .int .i64 a0_3, .int .i64 a0_4, .int .i64 a0_5, .int .i64 a0_6, .int .i64 a0_7, .int .i64 a0_8, .int .i64 a0_9, .int .i64 a0_10, .int .i64 a0_11, .int .i64 a0_12, .int .i64 a0_13] 29 (0, 0))) ∧ Aside0 (Below w.heap.size w wc))
      case first =>
        have H := HC12.out
        clear HC12
        replace H := Option.bind_eq_some_iff.mp H
        obtain ⟨t107, A130, H⟩ := H
        replace H : (if t107 = true then ((arena_within.f a0_4 0 65536).bind fun t108 => (if t108 = true then ((arena_within.f a0_6 1 65536).bind fun t109 => (if t109 = true then ((arena_within.f a0_5 a0_6 65536).bind fun t110 => (arena_Valid.j1 kj1 x3_1 t110 a0_0 a0_1 a0_2 a0_3 a0_4 a0_5 a0_6 a0_7 a0_8 a0_9 a0_10 a0_11 a0_12 a0_13)) else (arena_Valid.j1 kj1 x3_1 false a0_0 a0_1 a0_2 a0_3 a0_4 a0_5 a0_6 a0_7 a0_8 a0_9 a0_10 a0_11 a0_12 a0_13))) else (arena_Valid.j1 kj1 x3_1 false a0_0 a0_1 a0_2 a0_3 a0_4 a0_5 a0_6 a0_7 a0_8 a0_9 a0_10 a0_11 a0_12 a0_13))) else (arena_Valid.j1 kj1 x3_1 false a0_0 a0_1 a0_2 a0_3 a0_4 a0_5 a0_6 a0_7 a0_8 a0_9 a0_10 a0_11 a0_12 a0_13)) = some r := H
        have A13 := Aside0.mk A130
        clear A130
        by_cases c14 : t107 = true
        · subst c14
          have H1 : ((arena_within.f a0_4 0 65536).bind fun t108 => (if t108 = true then ((arena_within.f a0_6 1 65536).bind fun t109 => (if t109 = true then ((arena_within.f a0_5 a0_6 65536).bind fun t110 => (arena_Valid.j1 kj1 x3_1 t110 a0_0 a0_1 a0_2 a0_3 a0_4 a0_5 a0_6 a0_7 a0_8 a0_9 a0_10 a0_11 a0_12 a0_13)) else (arena_Valid.j1 kj1 x3_1 false a0_0 a0_1 a0_2 a0_3 a0_4 a0_5 a0_6 a0_7 a0_8 a0_9 a0_10 a0_11 a0_12 a0_13))) else (arena_Valid.j1 kj1 x3_1 false a0_0 a0_1 a0_2 a0_3 a0_4 a0_5 a0_6 a0_7 a0_8 a0_9 a0_10 a0_11 a0_12 a0_13))) = some r := by rw [if_pos rfl] at H; exact H
          clear H
          have H := H1
          clear H1
          replace H := Option.bind_eq_some_iff.mp H
          obtain ⟨t108, A150, H⟩ := H
          replace H : (if t108 = true then ((arena_within.f a0_6 1 65536).bind fun t109 => (if t109 = true then ((arena_within.f a0_5 a0_6 65536).bind fun t110 => (arena_Valid.j1 kj1 x3_1 t110 a0_0 a0_1 a0_2 a0_3 a0_4 a0_5 a0_6 a0_7 a0_8 a0_9 a0_10 a0_11 a0_12 a0_13)) else (arena_Valid.j1 kj1 x3_1 false a0_0 a0_1 a0_2 a0_3 a0_4 a0_5 a0_6 a0_7 a0_8 a0_9 a0_10 a0_11 a0_12 a0_13))) else (arena_Valid.j1 kj1 x3_1 false a0_0 a0_1 a0_2 a0_3 a0_4 a0_5 a0_6 a0_7 a0_8 a0_9 a0_10 a0_11 a0_12 a0_13)) = some r := H
          have A15 := Aside0.mk A150
          clear A150
          by_cases c16 : t108 = true
          · subst c16
            have H1 : ((arena_within.f a0_6 1 65536).bind fun t109 => (if t109 = true then ((arena_within.f a0_5 a0_6 65536).bind fun t110 => (arena_Valid.j1 kj1 x3_1 t110 a0_0 a0_1 a0_2 a0_3 a0_4 a0_5 a0_6 a0_7 a0_8 a0_9 a0_10 a0_11 a0_12 a0_13)) else (arena_Valid.j1 kj1 x3_1 false a0_0 a0_1 a0_2 a0_3 a0_4 a0_5 a0_6 a0_7 a0_8 a0_9 a0_10 a0_11 a0_12 a0_13))) = some r := by rw [if_pos rfl] at H; exact H
            clear H
            have H := H1
            clear H1
            replace H := Option.bind_eq_some_iff.mp H
            obtain ⟨t109, A170, H⟩ := H
            replace H : (if t109 = true then ((arena_within.f a0_5 a0_6 65536).bind fun t110 => (arena_Valid.j1 kj1 x3_1 t110 a0_0 a0_1 a0_2 a0_3 a0_4 a0_5 a0_6 a0_7 a0_8 a0_9 a0_10 a0_11 a0_12 a0_13)) else (arena_Valid.j1 kj1 x3_1 false a0_0 a0_1 a0_2 a0_3 a0_4 a0_5 a0_6 a0_7 a0_8 a0_9 a0_10 a0_11 a0_12 a0_13)) = some r := H
            have A17 := Aside0.mk A170
            clear A170
            by_cases c18 : t109 = true
            · subst c18
              have H1 : ((arena_within.f a0_5 a0_6 65536).bind fun t110 => (arena_Valid.j1 kj1 x3_1 t110 a0_0 a0_1 a0_2 a0_3 a0_4 a0_5 a0_6 a0_7 a0_8 a0_9 a0_10 a0_11 a0_12 a0_13)) = some r := by rw [if_pos rfl] at H; exact H
              clear H
              have H := H1
              clear H1
              replace H := Option.bind_eq_some_iff.mp H
              obtain ⟨t110, A190, H⟩ := H
              replace H : (arena_Valid.j1 kj1 x3_1 t110 a0_0 a0_1 a0_2 a0_3 a0_4 a0_5 a0_6 a0_7 a0_8 a0_9 a0_10 a0_11 a0_12 a0_13) = some r := H
              have A19 := Aside0.mk A190
              clear A190
              have H' := Aside0.mk H
              clear H
              have hcz20_0 : wc.cell? ⟨gb103, 0, none⟩ = some (.int .i64 a0_0) := (blk_cell BK103.out 0).trans rfl
              have hcz20_1 : wc.cell? ⟨gb103, 1, none⟩ = some (.int .i64 a0_1) := (blk_cell BK103.out 1).trans rfl
              have hcz20_2 : wc.cell? ⟨gb103, 2, none⟩ = some (.int .i64 a0_2) := (blk_cell BK103.out 2).trans rfl
              have hcz20_3 : wc.cell? ⟨gb103, 3, none⟩ = some (.int .i64 a0_3) := (blk_cell BK103.out 3).trans rfl
              have hcz20_4 : wc.cell? ⟨gb103, 4, none⟩ = some (.int .i64 a0_4) := (blk_cell BK103.out 4).trans rfl
              have hcz20_5 : wc.cell? ⟨gb103, 5, none⟩ = some (.int .i64 a0_5) := (blk_cell BK103.out 5).trans rfl
              have hcz20_6 : wc.cell? ⟨gb103, 6, none⟩ = some (.int .i64 a0_6) := (blk_cell BK103.out 6).trans rfl
              have hcz20_7 : wc.cell? ⟨gb103, 7, none⟩ = some (.int .i64 a0_7) := (blk_cell BK103.out 7).trans rfl
              have hcz20_8 : wc.cell? ⟨gb103, 8, none⟩ = some (.int .i64 a0_8) := (blk_cell BK103.out 8).trans rfl
              have hcz20_9 : wc.cell? ⟨gb103, 9, none⟩ = some (.int .i64 a0_9) := (blk_cell BK103.out 9).trans rfl
              have hcz20_10 : wc.cell? ⟨gb103, 10, none⟩ = some (.int .i64 a0_10) := (blk_cell BK103.out 10).trans rfl
              have hcz20_11 : wc.cell? ⟨gb103, 11, none⟩ = some (.int .i64 a0_11) := (blk_cell BK103.out 11).trans rfl
              have hcz20_12 : wc.cell? ⟨gb103, 12, none⟩ = some (.int .i64 a0_12) := (blk_cell BK103.out 12).trans rfl
              have hcz20_13 : wc.cell? ⟨gb103, 13, none⟩ = some (.int .i64 a0_13) := (blk_cell BK103.out 13).trans rfl
              have hfz20_0 := blk_frozen BK103.out 0
              have hfz20_1 := blk_frozen BK103.out 1
              have hfz20_2 := blk_frozen BK103.out 2
              have hfz20_3 := blk_frozen BK103.out 3
              have hfz20_4 := blk_frozen BK103.out 4
              have hfz20_5 := blk_frozen BK103.out 5
              have hfz20_6 := blk_frozen BK103.out 6
              have hfz20_7 := blk_frozen BK103.out 7
              have hfz20_8 := blk_frozen BK103.out 8
              have hfz20_9 := blk_frozen BK103.out 9
              have hfz20_10 := blk_frozen BK103.out 10
              have hfz20_11 := blk_frozen BK103.out 11
              have hfz20_12 := blk_frozen BK103.out 12
              have hfz20_13 := blk_frozen BK103.out 13
              go_wp2_with (first | ((with_reducible refine gate_callee (f := 19) rfl ?_); refine goesL_ (some 22) rfl rfl Try.func19 (by kernel_rfl) rfl #[.int .i64 a0_3, .int .i64 2, .int .i64 65536] rfl (by (try simp only [List.map_toArray, List.map_cons, List.map_nil]); first | done | rfl | (simp only [List.length_drop, List.length_take]; rfl)) ?_; (with_reducible refine (arena_within.calls a0_3 2 65536 true _ A13.out).mono ?_); rintro e w' ⟨rfl, ⟨nd, rfl⟩⟩; refine ⟨_, rfl, ?_⟩) | (go_at_call 19; (with_reducible refine (arena_within.calls a0_4 0 65536 true _ A15.out).mono ?_); rintro e w' ⟨rfl, ⟨nd, rfl⟩⟩) | (go_at_call 19; (with_reducible refine (arena_within.calls a0_6 1 65536 true _ A17.out).mono ?_); rintro e w' ⟨rfl, ⟨nd, rfl⟩⟩) | (go_at_call 19; (with_reducible refine (arena_within.calls a0_5 a0_6 65536 t110 _ A19.out).mono ?_); rintro e w' ⟨rfl, ⟨nd, rfl⟩⟩))
              go_meet
              case rel => exact ⟨_, (t110), (by first | rfl | (simp; done) | (simp [*]; done)), H', ⟨by have := HJ1.out; first | omega | exact Nat.le_refl _⟩, ⟨by (with_reducible repeat (first | refine blk_drewN ?_ _ | refine blk_drew ?_ | refine blk_alloc ?_ _)); exact BK103.out⟩, ⟨by repeat (first | (with_reducible first | exact HB.out | apply below_alloc | apply pw_below_drewN | apply below_drew1 | refine below_set ?_ GE103.out) | exact HB.out)⟩⟩
            · replace c18 := Bool.eq_false_iff.mpr c18
              subst c18
              have H1 : (arena_Valid.j1 kj1 x3_1 false a0_0 a0_1 a0_2 a0_3 a0_4 a0_5 a0_6 a0_7 a0_8 a0_9 a0_10 a0_11 a0_12 a0_13) = some r := by rw [if_neg (show ¬ (false = true) by decide)] at H; exact H
              clear H
              have H := H1
              clear H1
              have H' := Aside0.mk H
              clear H
              have hcz21_0 : wc.cell? ⟨gb103, 0, none⟩ = some (.int .i64 a0_0) := (blk_cell BK103.out 0).trans rfl
              have hcz21_1 : wc.cell? ⟨gb103, 1, none⟩ = some (.int .i64 a0_1) := (blk_cell BK103.out 1).trans rfl
              have hcz21_2 : wc.cell? ⟨gb103, 2, none⟩ = some (.int .i64 a0_2) := (blk_cell BK103.out 2).trans rfl
              have hcz21_3 : wc.cell? ⟨gb103, 3, none⟩ = some (.int .i64 a0_3) := (blk_cell BK103.out 3).trans rfl
              have hcz21_4 : wc.cell? ⟨gb103, 4, none⟩ = some (.int .i64 a0_4) := (blk_cell BK103.out 4).trans rfl
              have hcz21_5 : wc.cell? ⟨gb103, 5, none⟩ = some (.int .i64 a0_5) := (blk_cell BK103.out 5).trans rfl
              have hcz21_6 : wc.cell? ⟨gb103, 6, none⟩ = some (.int .i64 a0_6) := (blk_cell BK103.out 6).trans rfl
              have hcz21_7 : wc.cell? ⟨gb103, 7, none⟩ = some (.int .i64 a0_7) := (blk_cell BK103.out 7).trans rfl
              have hcz21_8 : wc.cell? ⟨gb103, 8, none⟩ = some (.int .i64 a0_8) := (blk_cell BK103.out 8).trans rfl
              have hcz21_9 : wc.cell? ⟨gb103, 9, none⟩ = some (.int .i64 a0_9) := (blk_cell BK103.out 9).trans rfl
              have hcz21_10 : wc.cell? ⟨gb103, 10, none⟩ = some (.int .i64 a0_10) := (blk_cell BK103.out 10).trans rfl
              have hcz21_11 : wc.cell? ⟨gb103, 11, none⟩ = some (.int .i64 a0_11) := (blk_cell BK103.out 11).trans rfl
              have hcz21_12 : wc.cell? ⟨gb103, 12, none⟩ = some (.int .i64 a0_12) := (blk_cell BK103.out 12).trans rfl
              have hcz21_13 : wc.cell? ⟨gb103, 13, none⟩ = some (.int .i64 a0_13) := (blk_cell BK103.out 13).trans rfl
              have hfz21_0 := blk_frozen BK103.out 0
              have hfz21_1 := blk_frozen BK103.out 1
              have hfz21_2 := blk_frozen BK103.out 2
              have hfz21_3 := blk_frozen BK103.out 3
              have hfz21_4 := blk_frozen BK103.out 4
              have hfz21_5 := blk_frozen BK103.out 5
              have hfz21_6 := blk_frozen BK103.out 6
              have hfz21_7 := blk_frozen BK103.out 7
              have hfz21_8 := blk_frozen BK103.out 8
              have hfz21_9 := blk_frozen BK103.out 9
              have hfz21_10 := blk_frozen BK103.out 10
              have hfz21_11 := blk_frozen BK103.out 11
              have hfz21_12 := blk_frozen BK103.out 12
              have hfz21_13 := blk_frozen BK103.out 13
              go_wp2_with (first | ((with_reducible refine gate_callee (f := 19) rfl ?_); refine goesL_ (some 22) rfl rfl Try.func19 (by kernel_rfl) rfl #[.int .i64 a0_3, .int .i64 2, .int .i64 65536] rfl (by (try simp only [List.map_toArray, List.map_cons, List.map_nil]); first | done | rfl | (simp only [List.length_drop, List.length_take]; rfl)) ?_; (with_reducible refine (arena_within.calls a0_3 2 65536 true _ A13.out).mono ?_); rintro e w' ⟨rfl, ⟨nd, rfl⟩⟩; refine ⟨_, rfl, ?_⟩) | (go_at_call 19; (with_reducible refine (arena_within.calls a0_4 0 65536 true _ A15.out).mono ?_); rintro e w' ⟨rfl, ⟨nd, rfl⟩⟩) | (go_at_call 19; (with_reducible refine (arena_within.calls a0_6 1 65536 false _ A17.out).mono ?_); rintro e w' ⟨rfl, ⟨nd, rfl⟩⟩))
              go_meet
              case rel => exact ⟨_, (false), (by first | rfl | (simp; done) | (simp [*]; done)), H', ⟨by have := HJ1.out; first | omega | exact Nat.le_refl _⟩, ⟨by (with_reducible repeat (first | refine blk_drewN ?_ _ | refine blk_drew ?_ | refine blk_alloc ?_ _)); exact BK103.out⟩, ⟨by repeat (first | (with_reducible first | exact HB.out | apply below_alloc | apply pw_below_drewN | apply below_drew1 | refine below_set ?_ GE103.out) | exact HB.out)⟩⟩
          · replace c16 := Bool.eq_false_iff.mpr c16
            subst c16
            have H1 : (arena_Valid.j1 kj1 x3_1 false a0_0 a0_1 a0_2 a0_3 a0_4 a0_5 a0_6 a0_7 a0_8 a0_9 a0_10 a0_11 a0_12 a0_13) = some r := by rw [if_neg (show ¬ (false = true) by decide)] at H; exact H
            clear H
            have H := H1
            clear H1
            have H' := Aside0.mk H
            clear H
            have hcz22_0 : wc.cell? ⟨gb103, 0, none⟩ = some (.int .i64 a0_0) := (blk_cell BK103.out 0).trans rfl
            have hcz22_1 : wc.cell? ⟨gb103, 1, none⟩ = some (.int .i64 a0_1) := (blk_cell BK103.out 1).trans rfl
            have hcz22_2 : wc.cell? ⟨gb103, 2, none⟩ = some (.int .i64 a0_2) := (blk_cell BK103.out 2).trans rfl
            have hcz22_3 : wc.cell? ⟨gb103, 3, none⟩ = some (.int .i64 a0_3) := (blk_cell BK103.out 3).trans rfl
            have hcz22_4 : wc.cell? ⟨gb103, 4, none⟩ = some (.int .i64 a0_4) := (blk_cell BK103.out 4).trans rfl
            have hcz22_5 : wc.cell? ⟨gb103, 5, none⟩ = some (.int .i64 a0_5) := (blk_cell BK103.out 5).trans rfl
            have hcz22_6 : wc.cell? ⟨gb103, 6, none⟩ = some (.int .i64 a0_6) := (blk_cell BK103.out 6).trans rfl
            have hcz22_7 : wc.cell? ⟨gb103, 7, none⟩ = some (.int .i64 a0_7) := (blk_cell BK103.out 7).trans rfl
            have hcz22_8 : wc.cell? ⟨gb103, 8, none⟩ = some (.int .i64 a0_8) := (blk_cell BK103.out 8).trans rfl
            have hcz22_9 : wc.cell? ⟨gb103, 9, none⟩ = some (.int .i64 a0_9) := (blk_cell BK103.out 9).trans rfl
            have hcz22_10 : wc.cell? ⟨gb103, 10, none⟩ = some (.int .i64 a0_10) := (blk_cell BK103.out 10).trans rfl
            have hcz22_11 : wc.cell? ⟨gb103, 11, none⟩ = some (.int .i64 a0_11) := (blk_cell BK103.out 11).trans rfl
            have hcz22_12 : wc.cell? ⟨gb103, 12, none⟩ = some (.int .i64 a0_12) := (blk_cell BK103.out 12).trans rfl
            have hcz22_13 : wc.cell? ⟨gb103, 13, none⟩ = some (.int .i64 a0_13) := (blk_cell BK103.out 13).trans rfl
            have hfz22_0 := blk_frozen BK103.out 0
            have hfz22_1 := blk_frozen BK103.out 1
            have hfz22_2 := blk_frozen BK103.out 2
            have hfz22_3 := blk_frozen BK103.out 3
            have hfz22_4 := blk_frozen BK103.out 4
            have hfz22_5 := blk_frozen BK103.out 5
            have hfz22_6 := blk_frozen BK103.out 6
            have hfz22_7 := blk_frozen BK103.out 7
            have hfz22_8 := blk_frozen BK103.out 8
            have hfz22_9 := blk_frozen BK103.out 9
            have hfz22_10 := blk_frozen BK103.out 10
            have hfz22_11 := blk_frozen BK103.out 11
            have hfz22_12 := blk_frozen BK103.out 12
            have hfz22_13 := blk_frozen BK103.out 13
            go_wp2_with (first | ((with_reducible refine gate_callee (f := 19) rfl ?_); refine goesL_ (some 22) rfl rfl Try.func19 (by kernel_rfl) rfl #[.int .i64 a0_3, .int .i64 2, .int .i64 65536] rfl (by (try simp only [List.map_toArray, List.map_cons, List.map_nil]); first | done | rfl | (simp only [List.length_drop, List.length_take]; rfl)) ?_; (with_reducible refine (arena_within.calls a0_3 2 65536 true _ A13.out).mono ?_); rintro e w' ⟨rfl, ⟨nd, rfl⟩⟩; refine ⟨_, rfl, ?_⟩) | (go_at_call 19; (with_reducible refine (arena_within.calls a0_4 0 65536 false _ A15.out).mono ?_); rintro e w' ⟨rfl, ⟨nd, rfl⟩⟩))
            go_meet
            case rel => exact ⟨_, (false), (by first | rfl | (simp; done) | (simp [*]; done)), H', ⟨by have := HJ1.out; first | omega | exact Nat.le_refl _⟩, ⟨by (with_reducible repeat (first | refine blk_drewN ?_ _ | refine blk_drew ?_ | refine blk_alloc ?_ _)); exact BK103.out⟩, ⟨by repeat (first | (with_reducible first | exact HB.out | apply below_alloc | apply pw_below_drewN | apply below_drew1 | refine below_set ?_ GE103.out) | exact HB.out)⟩⟩
        · replace c14 := Bool.eq_false_iff.mpr c14
          subst c14
          have H1 : (arena_Valid.j1 kj1 x3_1 false a0_0 a0_1 a0_2 a0_3 a0_4 a0_5 a0_6 a0_7 a0_8 a0_9 a0_10 a0_11 a0_12 a0_13) = some r := by rw [if_neg (show ¬ (false = true) by decide)] at H; exact H
          clear H
          have H := H1
          clear H1
          have H' := Aside0.mk H
          clear H
          have hcz23_0 : wc.cell? ⟨gb103, 0, none⟩ = some (.int .i64 a0_0) := (blk_cell BK103.out 0).trans rfl
          have hcz23_1 : wc.cell? ⟨gb103, 1, none⟩ = some (.int .i64 a0_1) := (blk_cell BK103.out 1).trans rfl
          have hcz23_2 : wc.cell? ⟨gb103, 2, none⟩ = some (.int .i64 a0_2) := (blk_cell BK103.out 2).trans rfl
          have hcz23_3 : wc.cell? ⟨gb103, 3, none⟩ = some (.int .i64 a0_3) := (blk_cell BK103.out 3).trans rfl
          have hcz23_4 : wc.cell? ⟨gb103, 4, none⟩ = some (.int .i64 a0_4) := (blk_cell BK103.out 4).trans rfl
          have hcz23_5 : wc.cell? ⟨gb103, 5, none⟩ = some (.int .i64 a0_5) := (blk_cell BK103.out 5).trans rfl
          have hcz23_6 : wc.cell? ⟨gb103, 6, none⟩ = some (.int .i64 a0_6) := (blk_cell BK103.out 6).trans rfl
          have hcz23_7 : wc.cell? ⟨gb103, 7, none⟩ = some (.int .i64 a0_7) := (blk_cell BK103.out 7).trans rfl
          have hcz23_8 : wc.cell? ⟨gb103, 8, none⟩ = some (.int .i64 a0_8) := (blk_cell BK103.out 8).trans rfl
          have hcz23_9 : wc.cell? ⟨gb103, 9, none⟩ = some (.int .i64 a0_9) := (blk_cell BK103.out 9).trans rfl
          have hcz23_10 : wc.cell? ⟨gb103, 10, none⟩ = some (.int .i64 a0_10) := (blk_cell BK103.out 10).trans rfl
          have hcz23_11 : wc.cell? ⟨gb103, 11, none⟩ = some (.int .i64 a0_11) := (blk_cell BK103.out 11).trans rfl
          have hcz23_12 : wc.cell? ⟨gb103, 12, none⟩ = some (.int .i64 a0_12) := (blk_cell BK103.out 12).trans rfl
          have hcz23_13 : wc.cell? ⟨gb103, 13, none⟩ = some (.int .i64 a0_13) := (blk_cell BK103.out 13).trans rfl
          have hfz23_0 := blk_frozen BK103.out 0
          have hfz23_1 := blk_frozen BK103.out 1
          have hfz23_2 := blk_frozen BK103.out 2
          have hfz23_3 := blk_frozen BK103.out 3
          have hfz23_4 := blk_frozen BK103.out 4
          have hfz23_5 := blk_frozen BK103.out 5
          have hfz23_6 := blk_frozen BK103.out 6
          have hfz23_7 := blk_frozen BK103.out 7
          have hfz23_8 := blk_frozen BK103.out 8
          have hfz23_9 := blk_frozen BK103.out 9
          have hfz23_10 := blk_frozen BK103.out 10
          have hfz23_11 := blk_frozen BK103.out 11
          have hfz23_12 := blk_frozen BK103.out 12
          have hfz23_13 := blk_frozen BK103.out 13
          go_wp2_with (first | ((with_reducible refine gate_callee (f := 19) rfl ?_); refine goesL_ (some 22) rfl rfl Try.func19 (by kernel_rfl) rfl #[.int .i64 a0_3, .int .i64 2, .int .i64 65536] rfl (by (try simp only [List.map_toArray, List.map_cons, List.map_nil]); first | done | rfl | (simp only [List.length_drop, List.length_take]; rfl)) ?_; (with_reducible refine (arena_within.calls a0_3 2 65536 false _ A13.out).mono ?_); rintro e w' ⟨rfl, ⟨nd, rfl⟩⟩; refine ⟨_, rfl, ?_⟩))
          go_meet
          case rel => exact ⟨_, (false), (by first | rfl | (simp; done) | (simp [*]; done)), H', ⟨by have := HJ1.out; first | omega | exact Nat.le_refl _⟩, ⟨by (with_reducible repeat (first | refine blk_drewN ?_ _ | refine blk_drew ?_ | refine blk_alloc ?_ _)); exact BK103.out⟩, ⟨by repeat (first | (with_reducible first | exact HB.out | apply below_alloc | apply pw_below_drewN | apply below_drew1 | refine below_set ?_ GE103.out) | exact HB.out)⟩⟩
      case rest =>
        clear HC12
        try clear c1
        try clear p2
        try clear c5
        try clear c7
        try clear c14
        try clear c15
        try clear c16
        try clear c18
        try clear c19
        try clear hcz10_0
        try clear hcz10_1
        try clear hcz10_10
        try clear hcz10_11
        try clear hcz10_12
        try clear hcz10_13
        try clear hcz10_2
        try clear hcz10_3
        try clear hcz10_4
        try clear hcz10_5
        try clear hcz10_6
        try clear hcz10_7
        try clear hcz10_8
        try clear hcz10_9
        try clear hcz11_0
        try clear hcz11_1
        try clear hcz11_10
        try clear hcz11_11
        try clear hcz11_12
        try clear hcz11_13
        try clear hcz11_2
        try clear hcz11_3
        try clear hcz11_4
        try clear hcz11_5
        try clear hcz11_6
        try clear hcz11_7
        try clear hcz11_8
        try clear hcz11_9
        try clear hcz20_0
        try clear hcz20_1
        try clear hcz20_10
        try clear hcz20_11
        try clear hcz20_12
        try clear hcz20_13
        try clear hcz20_2
        try clear hcz20_3
        try clear hcz20_4
        try clear hcz20_5
        try clear hcz20_6
        try clear hcz20_7
        try clear hcz20_8
        try clear hcz20_9
        try clear hcz21_0
        try clear hcz21_1
        try clear hcz21_10
        try clear hcz21_11
        try clear hcz21_12
        try clear hcz21_13
        try clear hcz21_2
        try clear hcz21_3
        try clear hcz21_4
        try clear hcz21_5
        try clear hcz21_6
        try clear hcz21_7
        try clear hcz21_8
        try clear hcz21_9
        try clear hcz22_0
        try clear hcz22_1
        try clear hcz22_10
        try clear hcz22_11
        try clear hcz22_12
        try clear hcz22_13
        try clear hcz22_2
        try clear hcz22_3
        try clear hcz22_4
        try clear hcz22_5
        try clear hcz22_6
        try clear hcz22_7
        try clear hcz22_8
        try clear hcz22_9
        try clear hcz23_0
        try clear hcz23_1
        try clear hcz23_10
        try clear hcz23_11
        try clear hcz23_12
        try clear hcz23_13
        try clear hcz23_2
        try clear hcz23_3
        try clear hcz23_4
        try clear hcz23_5
        try clear hcz23_6
        try clear hcz23_7
        try clear hcz23_8
        try clear hcz23_9
        try clear hcz9_0
        try clear hcz9_1
        try clear hcz9_10
        try clear hcz9_11
        try clear hcz9_12
        try clear hcz9_13
        try clear hcz9_2
        try clear hcz9_3
        try clear hcz9_4
        try clear hcz9_5
        try clear hcz9_6
        try clear hcz9_7
        try clear hcz9_8
        try clear hcz9_9
        try clear hfz10_0
        try clear hfz10_1
        try clear hfz10_10
        try clear hfz10_11
        try clear hfz10_12
        try clear hfz10_13
        try clear hfz10_2
        try clear hfz10_3
        try clear hfz10_4
        try clear hfz10_5
        try clear hfz10_6
        try clear hfz10_7
        try clear hfz10_8
        try clear hfz10_9
        try clear hfz11_0
        try clear hfz11_1
        try clear hfz11_10
        try clear hfz11_11
        try clear hfz11_12
        try clear hfz11_13
        try clear hfz11_2
        try clear hfz11_3
        try clear hfz11_4
        try clear hfz11_5
        try clear hfz11_6
        try clear hfz11_7
        try clear hfz11_8
        try clear hfz11_9
        try clear hfz20_0
        try clear hfz20_1
        try clear hfz20_10
        try clear hfz20_11
        try clear hfz20_12
        try clear hfz20_13
        try clear hfz20_2
        try clear hfz20_3
        try clear hfz20_4
        try clear hfz20_5
        try clear hfz20_6
        try clear hfz20_7
        try clear hfz20_8
        try clear hfz20_9
        try clear hfz21_0
        try clear hfz21_1
        try clear hfz21_10
        try clear hfz21_11
        try clear hfz21_12
        try clear hfz21_13
        try clear hfz21_2
        try clear hfz21_3
        try clear hfz21_4
        try clear hfz21_5
        try clear hfz21_6
        try clear hfz21_7
        try clear hfz21_8
        try clear hfz21_9
        try clear hfz22_0
        try clear hfz22_1
        try clear hfz22_10
        try clear hfz22_11
        try clear hfz22_12
        try clear hfz22_13
        try clear hfz22_2
        try clear hfz22_3
        try clear hfz22_4
        try clear hfz22_5
        try clear hfz22_6
        try clear hfz22_7
        try clear hfz22_8
        try clear hfz22_9
        try clear hfz23_0
        try clear hfz23_1
        try clear hfz23_10
        try clear hfz23_11
        try clear hfz23_12
        try clear hfz23_13
        try clear hfz23_2
        try clear hfz23_3
        try clear hfz23_4
        try clear hfz23_5
        try clear hfz23_6
        try clear hfz23_7
        try clear hfz23_8
        try clear hfz23_9
        try clear hfz9_0
        try clear hfz9_1
        try clear hfz9_10
        try clear hfz9_11
        try clear hfz9_12
        try clear hfz9_13
        try clear hfz9_2
        try clear hfz9_3
        try clear hfz9_4
        try clear hfz9_5
        try clear hfz9_6
        try clear hfz9_7
        try clear hfz9_8
        try clear hfz9_9
        try clear p2
        obtain ⟨kq, x4_11, rfl, HA, HJ11, BK103, HB⟩ := hcut
        cases kq with
        | zero => exact absurd HA.out (by simp [arena_Valid.j1])
        | succ kj11 =>
          have H := HA.out
          clear HA
          simp only [arena_Valid.j1] at H
          have HC24 := Aside0.mk H
          clear H
          go_upto_region 3 with (fail)
          go_cut [5] (fun v5 wc => ∃ (kq : Nat) (x5_23 : Bool), v5 = .bool x5_23 ∧ Aside0 (arena_Valid.j2 kq x3_1 x4_11 x5_23 a0_0 a0_1 a0_2 a0_3 a0_4 a0_5 a0_6 a0_7 a0_8 a0_9 a0_10 a0_11 a0_12 a0_13 = some r) ∧ Aside0 (kq ≤ kj11) ∧ Aside0 (wc.heap[gb103]? = some (.cells #[.int .i64 a0_0, .int .i64 a0_1, .int .i64 a0_2, .int .i64 a0_3, .int .i64 a0_4, .int .i64 a0_5, .int .i64 a0_6, .int .i64 a0_7, .int .i64 a0_8, .int .i64 a0_9, .int .i64 a0_10, .int .i64 a0_11, .int .i64 a0_12, .int .i64 a0_13] 29 (0, 0))) ∧ Aside0 (Below w.heap.size w wc))
          case first =>
            have H := HC24.out
            clear HC24
            replace H := Option.bind_eq_some_iff.mp H
            obtain ⟨t111, A250, H⟩ := H
            replace H : (if t111 = true then ((arena_within.f a0_8 1 15).bind fun t112 => (arena_Valid.j2 kj11 x3_1 x4_11 t112 a0_0 a0_1 a0_2 a0_3 a0_4 a0_5 a0_6 a0_7 a0_8 a0_9 a0_10 a0_11 a0_12 a0_13)) else (arena_Valid.j2 kj11 x3_1 x4_11 false a0_0 a0_1 a0_2 a0_3 a0_4 a0_5 a0_6 a0_7 a0_8 a0_9 a0_10 a0_11 a0_12 a0_13)) = some r := H
            have A25 := Aside0.mk A250
            clear A250
            by_cases c26 : t111 = true
            · subst c26
              have H1 : ((arena_within.f a0_8 1 15).bind fun t112 => (arena_Valid.j2 kj11 x3_1 x4_11 t112 a0_0 a0_1 a0_2 a0_3 a0_4 a0_5 a0_6 a0_7 a0_8 a0_9 a0_10 a0_11 a0_12 a0_13)) = some r := by rw [if_pos rfl] at H; exact H
              clear H
              have H := H1
              clear H1
              replace H := Option.bind_eq_some_iff.mp H
              obtain ⟨t112, A270, H⟩ := H
              replace H : (arena_Valid.j2 kj11 x3_1 x4_11 t112 a0_0 a0_1 a0_2 a0_3 a0_4 a0_5 a0_6 a0_7 a0_8 a0_9 a0_10 a0_11 a0_12 a0_13) = some r := H
              have A27 := Aside0.mk A270
              clear A270
              have H' := Aside0.mk H
              clear H
              have hcz28_0 : wc.cell? ⟨gb103, 0, none⟩ = some (.int .i64 a0_0) := (blk_cell BK103.out 0).trans rfl
              have hcz28_1 : wc.cell? ⟨gb103, 1, none⟩ = some (.int .i64 a0_1) := (blk_cell BK103.out 1).trans rfl
              have hcz28_2 : wc.cell? ⟨gb103, 2, none⟩ = some (.int .i64 a0_2) := (blk_cell BK103.out 2).trans rfl
              have hcz28_3 : wc.cell? ⟨gb103, 3, none⟩ = some (.int .i64 a0_3) := (blk_cell BK103.out 3).trans rfl
              have hcz28_4 : wc.cell? ⟨gb103, 4, none⟩ = some (.int .i64 a0_4) := (blk_cell BK103.out 4).trans rfl
              have hcz28_5 : wc.cell? ⟨gb103, 5, none⟩ = some (.int .i64 a0_5) := (blk_cell BK103.out 5).trans rfl
              have hcz28_6 : wc.cell? ⟨gb103, 6, none⟩ = some (.int .i64 a0_6) := (blk_cell BK103.out 6).trans rfl
              have hcz28_7 : wc.cell? ⟨gb103, 7, none⟩ = some (.int .i64 a0_7) := (blk_cell BK103.out 7).trans rfl
              have hcz28_8 : wc.cell? ⟨gb103, 8, none⟩ = some (.int .i64 a0_8) := (blk_cell BK103.out 8).trans rfl
              have hcz28_9 : wc.cell? ⟨gb103, 9, none⟩ = some (.int .i64 a0_9) := (blk_cell BK103.out 9).trans rfl
              have hcz28_10 : wc.cell? ⟨gb103, 10, none⟩ = some (.int .i64 a0_10) := (blk_cell BK103.out 10).trans rfl
              have hcz28_11 : wc.cell? ⟨gb103, 11, none⟩ = some (.int .i64 a0_11) := (blk_cell BK103.out 11).trans rfl
              have hcz28_12 : wc.cell? ⟨gb103, 12, none⟩ = some (.int .i64 a0_12) := (blk_cell BK103.out 12).trans rfl
              have hcz28_13 : wc.cell? ⟨gb103, 13, none⟩ = some (.int .i64 a0_13) := (blk_cell BK103.out 13).trans rfl
              have hfz28_0 := blk_frozen BK103.out 0
              have hfz28_1 := blk_frozen BK103.out 1
              have hfz28_2 := blk_frozen BK103.out 2
              have hfz28_3 := blk_frozen BK103.out 3
              have hfz28_4 := blk_frozen BK103.out 4
              have hfz28_5 := blk_frozen BK103.out 5
              have hfz28_6 := blk_frozen BK103.out 6
              have hfz28_7 := blk_frozen BK103.out 7
              have hfz28_8 := blk_frozen BK103.out 8
              have hfz28_9 := blk_frozen BK103.out 9
              have hfz28_10 := blk_frozen BK103.out 10
              have hfz28_11 := blk_frozen BK103.out 11
              have hfz28_12 := blk_frozen BK103.out 12
              have hfz28_13 := blk_frozen BK103.out 13
              go_wp2_with (first | ((with_reducible refine gate_callee (f := 19) rfl ?_); refine goesL_ (some 42) rfl rfl Try.func19 (by kernel_rfl) rfl #[.int .i64 a0_7, .int .i64 1, .int .i64 100] rfl (by (try simp only [List.map_toArray, List.map_cons, List.map_nil]); first | done | rfl | (simp only [List.length_drop, List.length_take]; rfl)) ?_; (with_reducible refine (arena_within.calls a0_7 1 100 true _ A25.out).mono ?_); rintro e w' ⟨rfl, ⟨nd, rfl⟩⟩; refine ⟨_, rfl, ?_⟩) | (go_at_call 19; (with_reducible refine (arena_within.calls a0_8 1 15 t112 _ A27.out).mono ?_); rintro e w' ⟨rfl, ⟨nd, rfl⟩⟩))
              go_meet
              case rel => exact ⟨_, (t112), (by first | rfl | (simp; done) | (simp [*]; done)), H', ⟨by have := HJ1.out; have := HJ11.out; first | omega | exact Nat.le_refl _⟩, ⟨by (with_reducible repeat (first | refine blk_drewN ?_ _ | refine blk_drew ?_ | refine blk_alloc ?_ _)); exact BK103.out⟩, ⟨by repeat (first | (with_reducible first | exact HB.out | apply below_alloc | apply pw_below_drewN | apply below_drew1 | refine below_set ?_ GE103.out) | exact HB.out)⟩⟩
            · replace c26 := Bool.eq_false_iff.mpr c26
              subst c26
              have H1 : (arena_Valid.j2 kj11 x3_1 x4_11 false a0_0 a0_1 a0_2 a0_3 a0_4 a0_5 a0_6 a0_7 a0_8 a0_9 a0_10 a0_11 a0_12 a0_13) = some r := by rw [if_neg (show ¬ (false = true) by decide)] at H; exact H
              clear H
              have H := H1
              clear H1
              have H' := Aside0.mk H
              clear H
              have hcz29_0 : wc.cell? ⟨gb103, 0, none⟩ = some (.int .i64 a0_0) := (blk_cell BK103.out 0).trans rfl
              have hcz29_1 : wc.cell? ⟨gb103, 1, none⟩ = some (.int .i64 a0_1) := (blk_cell BK103.out 1).trans rfl
              have hcz29_2 : wc.cell? ⟨gb103, 2, none⟩ = some (.int .i64 a0_2) := (blk_cell BK103.out 2).trans rfl
              have hcz29_3 : wc.cell? ⟨gb103, 3, none⟩ = some (.int .i64 a0_3) := (blk_cell BK103.out 3).trans rfl
              have hcz29_4 : wc.cell? ⟨gb103, 4, none⟩ = some (.int .i64 a0_4) := (blk_cell BK103.out 4).trans rfl
              have hcz29_5 : wc.cell? ⟨gb103, 5, none⟩ = some (.int .i64 a0_5) := (blk_cell BK103.out 5).trans rfl
              have hcz29_6 : wc.cell? ⟨gb103, 6, none⟩ = some (.int .i64 a0_6) := (blk_cell BK103.out 6).trans rfl
              have hcz29_7 : wc.cell? ⟨gb103, 7, none⟩ = some (.int .i64 a0_7) := (blk_cell BK103.out 7).trans rfl
              have hcz29_8 : wc.cell? ⟨gb103, 8, none⟩ = some (.int .i64 a0_8) := (blk_cell BK103.out 8).trans rfl
              have hcz29_9 : wc.cell? ⟨gb103, 9, none⟩ = some (.int .i64 a0_9) := (blk_cell BK103.out 9).trans rfl
              have hcz29_10 : wc.cell? ⟨gb103, 10, none⟩ = some (.int .i64 a0_10) := (blk_cell BK103.out 10).trans rfl
              have hcz29_11 : wc.cell? ⟨gb103, 11, none⟩ = some (.int .i64 a0_11) := (blk_cell BK103.out 11).trans rfl
              have hcz29_12 : wc.cell? ⟨gb103, 12, none⟩ = some (.int .i64 a0_12) := (blk_cell BK103.out 12).trans rfl
              have hcz29_13 : wc.cell? ⟨gb103, 13, none⟩ = some (.int .i64 a0_13) := (blk_cell BK103.out 13).trans rfl
              have hfz29_0 := blk_frozen BK103.out 0
              have hfz29_1 := blk_frozen BK103.out 1
              have hfz29_2 := blk_frozen BK103.out 2
              have hfz29_3 := blk_frozen BK103.out 3
              have hfz29_4 := blk_frozen BK103.out 4
              have hfz29_5 := blk_frozen BK103.out 5
              have hfz29_6 := blk_frozen BK103.out 6
              have hfz29_7 := blk_frozen BK103.out 7
              have hfz29_8 := blk_frozen BK103.out 8
              have hfz29_9 := blk_frozen BK103.out 9
              have hfz29_10 := blk_frozen BK103.out 10
              have hfz29_11 := blk_frozen BK103.out 11
              have hfz29_12 := blk_frozen BK103.out 12
              have hfz29_13 := blk_frozen BK103.out 13
              go_wp2_with (first | ((with_reducible refine gate_callee (f := 19) rfl ?_); refine goesL_ (some 42) rfl rfl Try.func19 (by kernel_rfl) rfl #[.int .i64 a0_7, .int .i64 1, .int .i64 100] rfl (by (try simp only [List.map_toArray, List.map_cons, List.map_nil]); first | done | rfl | (simp only [List.length_drop, List.length_take]; rfl)) ?_; (with_reducible refine (arena_within.calls a0_7 1 100 false _ A25.out).mono ?_); rintro e w' ⟨rfl, ⟨nd, rfl⟩⟩; refine ⟨_, rfl, ?_⟩))
              go_meet
              case rel => exact ⟨_, (false), (by first | rfl | (simp; done) | (simp [*]; done)), H', ⟨by have := HJ1.out; have := HJ11.out; first | omega | exact Nat.le_refl _⟩, ⟨by (with_reducible repeat (first | refine blk_drewN ?_ _ | refine blk_drew ?_ | refine blk_alloc ?_ _)); exact BK103.out⟩, ⟨by repeat (first | (with_reducible first | exact HB.out | apply below_alloc | apply pw_below_drewN | apply below_drew1 | refine below_set ?_ GE103.out) | exact HB.out)⟩⟩
          case rest =>
            clear HC24
            try clear c1
            try clear c2
            try clear p2
            try clear c5
            try clear c7
            try clear c14
            try clear c15
            try clear c16
            try clear c18
            try clear c19
            try clear c26
            try clear hcz10_0
            try clear hcz10_1
            try clear hcz10_10
            try clear hcz10_11
            try clear hcz10_12
            try clear hcz10_13
            try clear hcz10_2
            try clear hcz10_3
            try clear hcz10_4
            try clear hcz10_5
            try clear hcz10_6
            try clear hcz10_7
            try clear hcz10_8
            try clear hcz10_9
            try clear hcz11_0
            try clear hcz11_1
            try clear hcz11_10
            try clear hcz11_11
            try clear hcz11_12
            try clear hcz11_13
            try clear hcz11_2
            try clear hcz11_3
            try clear hcz11_4
            try clear hcz11_5
            try clear hcz11_6
            try clear hcz11_7
            try clear hcz11_8
            try clear hcz11_9
            try clear hcz20_0
            try clear hcz20_1
            try clear hcz20_10
            try clear hcz20_11
            try clear hcz20_12
            try clear hcz20_13
            try clear hcz20_2
            try clear hcz20_3
            try clear hcz20_4
            try clear hcz20_5
            try clear hcz20_6
            try clear hcz20_7
            try clear hcz20_8
            try clear hcz20_9
            try clear hcz21_0
            try clear hcz21_1
            try clear hcz21_10
            try clear hcz21_11
            try clear hcz21_12
            try clear hcz21_13
            try clear hcz21_2
            try clear hcz21_3
            try clear hcz21_4
            try clear hcz21_5
            try clear hcz21_6
            try clear hcz21_7
            try clear hcz21_8
            try clear hcz21_9
            try clear hcz22_0
            try clear hcz22_1
            try clear hcz22_10
            try clear hcz22_11
            try clear hcz22_12
            try clear hcz22_13
            try clear hcz22_2
            try clear hcz22_3
            try clear hcz22_4
            try clear hcz22_5
            try clear hcz22_6
            try clear hcz22_7
            try clear hcz22_8
            try clear hcz22_9
            try clear hcz23_0
            try clear hcz23_1
            try clear hcz23_10
            try clear hcz23_11
            try clear hcz23_12
            try clear hcz23_13
            try clear hcz23_2
            try clear hcz23_3
            try clear hcz23_4
            try clear hcz23_5
            try clear hcz23_6
            try clear hcz23_7
            try clear hcz23_8
            try clear hcz23_9
            try clear hcz28_0
            try clear hcz28_1
            try clear hcz28_10
            try clear hcz28_11
            try clear hcz28_12
            try clear hcz28_13
            try clear hcz28_2
            try clear hcz28_3
            try clear hcz28_4
            try clear hcz28_5
            try clear hcz28_6
            try clear hcz28_7
            try clear hcz28_8
            try clear hcz28_9
            try clear hcz29_0
            try clear hcz29_1
            try clear hcz29_10
            try clear hcz29_11
            try clear hcz29_12
            try clear hcz29_13
            try clear hcz29_2
            try clear hcz29_3
            try clear hcz29_4
            try clear hcz29_5
            try clear hcz29_6
            try clear hcz29_7
            try clear hcz29_8
            try clear hcz29_9
            try clear hcz9_0
            try clear hcz9_1
            try clear hcz9_10
            try clear hcz9_11
            try clear hcz9_12
            try clear hcz9_13
            try clear hcz9_2
            try clear hcz9_3
            try clear hcz9_4
            try clear hcz9_5
            try clear hcz9_6
            try clear hcz9_7
            try clear hcz9_8
            try clear hcz9_9
            try clear hfz10_0
            try clear hfz10_1
            try clear hfz10_10
            try clear hfz10_11
            try clear hfz10_12
            try clear hfz10_13
            try clear hfz10_2
            try clear hfz10_3
            try clear hfz10_4
            try clear hfz10_5
            try clear hfz10_6
            try clear hfz10_7
            try clear hfz10_8
            try clear hfz10_9
            try clear hfz11_0
            try clear hfz11_1
            try clear hfz11_10
            try clear hfz11_11
            try clear hfz11_12
            try clear hfz11_13
            try clear hfz11_2
            try clear hfz11_3
            try clear hfz11_4
            try clear hfz11_5
            try clear hfz11_6
            try clear hfz11_7
            try clear hfz11_8
            try clear hfz11_9
            try clear hfz20_0
            try clear hfz20_1
            try clear hfz20_10
            try clear hfz20_11
            try clear hfz20_12
            try clear hfz20_13
            try clear hfz20_2
            try clear hfz20_3
            try clear hfz20_4
            try clear hfz20_5
            try clear hfz20_6
            try clear hfz20_7
            try clear hfz20_8
            try clear hfz20_9
            try clear hfz21_0
            try clear hfz21_1
            try clear hfz21_10
            try clear hfz21_11
            try clear hfz21_12
            try clear hfz21_13
            try clear hfz21_2
            try clear hfz21_3
            try clear hfz21_4
            try clear hfz21_5
            try clear hfz21_6
            try clear hfz21_7
            try clear hfz21_8
            try clear hfz21_9
            try clear hfz22_0
            try clear hfz22_1
            try clear hfz22_10
            try clear hfz22_11
            try clear hfz22_12
            try clear hfz22_13
            try clear hfz22_2
            try clear hfz22_3
            try clear hfz22_4
            try clear hfz22_5
            try clear hfz22_6
            try clear hfz22_7
            try clear hfz22_8
            try clear hfz22_9
            try clear hfz23_0
            try clear hfz23_1
            try clear hfz23_10
            try clear hfz23_11
            try clear hfz23_12
            try clear hfz23_13
            try clear hfz23_2
            try clear hfz23_3
            try clear hfz23_4
            try clear hfz23_5
            try clear hfz23_6
            try clear hfz23_7
            try clear hfz23_8
            try clear hfz23_9
            try clear hfz28_0
            try clear hfz28_1
            try clear hfz28_10
            try clear hfz28_11
            try clear hfz28_12
            try clear hfz28_13
            try clear hfz28_2
            try clear hfz28_3
            try clear hfz28_4
            try clear hfz28_5
            try clear hfz28_6
            try clear hfz28_7
            try clear hfz28_8
            try clear hfz28_9
            try clear hfz29_0
            try clear hfz29_1
            try clear hfz29_10
            try clear hfz29_11
            try clear hfz29_12
            try clear hfz29_13
            try clear hfz29_2
            try clear hfz29_3
            try clear hfz29_4
            try clear hfz29_5
            try clear hfz29_6
            try clear hfz29_7
            try clear hfz29_8
            try clear hfz29_9
            try clear hfz9_0
            try clear hfz9_1
            try clear hfz9_10
            try clear hfz9_11
            try clear hfz9_12
            try clear hfz9_13
            try clear hfz9_2
            try clear hfz9_3
            try clear hfz9_4
            try clear hfz9_5
            try clear hfz9_6
            try clear hfz9_7
            try clear hfz9_8
            try clear hfz9_9
            try clear p2
            obtain ⟨kq, x5_23, rfl, HA, HJ23, BK103, HB⟩ := hcut
            cases kq with
            | zero => exact absurd HA.out (by simp [arena_Valid.j2])
            | succ kj23 =>
              have H := HA.out
              clear HA
              simp only [arena_Valid.j2] at H
              replace H := Option.bind_eq_some_iff.mp H
              obtain ⟨t113, A300, H⟩ := H
              replace H : (if t113 = true then ((arena_within.f a0_10 1 4096).bind fun t114 => (if t114 = true then ((arena_within.f a0_11 0 1024).bind fun t115 => (if x3_1 = true then (if x4_11 = true then (if x5_23 = true then (if t115 = true then ((arena_within.f a0_12 0 a0_0).bind fun t116 => (if t116 = true then ((arena_within.f a0_13 1 8).bind fun t117 => (some t117)) else (some false))) else (some false)) else (some false)) else (some false)) else (some false))) else (if x3_1 = true then (if x4_11 = true then (if x5_23 = true then (some false) else (some false)) else (some false)) else (some false)))) else (if x3_1 = true then (if x4_11 = true then (if x5_23 = true then (some false) else (some false)) else (some false)) else (some false))) = some r := H
              have A30 := Aside0.mk A300
              clear A300
              by_cases c31 : t113 = true
              · subst c31
                have H1 : ((arena_within.f a0_10 1 4096).bind fun t114 => (if t114 = true then ((arena_within.f a0_11 0 1024).bind fun t115 => (if x3_1 = true then (if x4_11 = true then (if x5_23 = true then (if t115 = true then ((arena_within.f a0_12 0 a0_0).bind fun t116 => (if t116 = true then ((arena_within.f a0_13 1 8).bind fun t117 => (some t117)) else (some false))) else (some false)) else (some false)) else (some false)) else (some false))) else (if x3_1 = true then (if x4_11 = true then (if x5_23 = true then (some false) else (some false)) else (some false)) else (some false)))) = some r := by rw [if_pos rfl] at H; exact H
                clear H
                have H := H1
                clear H1
                replace H := Option.bind_eq_some_iff.mp H
                obtain ⟨t114, A320, H⟩ := H
                replace H : (if t114 = true then ((arena_within.f a0_11 0 1024).bind fun t115 => (if x3_1 = true then (if x4_11 = true then (if x5_23 = true then (if t115 = true then ((arena_within.f a0_12 0 a0_0).bind fun t116 => (if t116 = true then ((arena_within.f a0_13 1 8).bind fun t117 => (some t117)) else (some false))) else (some false)) else (some false)) else (some false)) else (some false))) else (if x3_1 = true then (if x4_11 = true then (if x5_23 = true then (some false) else (some false)) else (some false)) else (some false))) = some r := H
                have A32 := Aside0.mk A320
                clear A320
                by_cases c33 : t114 = true
                · subst c33
                  have H1 : ((arena_within.f a0_11 0 1024).bind fun t115 => (if x3_1 = true then (if x4_11 = true then (if x5_23 = true then (if t115 = true then ((arena_within.f a0_12 0 a0_0).bind fun t116 => (if t116 = true then ((arena_within.f a0_13 1 8).bind fun t117 => (some t117)) else (some false))) else (some false)) else (some false)) else (some false)) else (some false))) = some r := by rw [if_pos rfl] at H; exact H
                  clear H
                  have H := H1
                  clear H1
                  replace H := Option.bind_eq_some_iff.mp H
                  obtain ⟨t115, A340, H⟩ := H
                  replace H : (if x3_1 = true then (if x4_11 = true then (if x5_23 = true then (if t115 = true then ((arena_within.f a0_12 0 a0_0).bind fun t116 => (if t116 = true then ((arena_within.f a0_13 1 8).bind fun t117 => (some t117)) else (some false))) else (some false)) else (some false)) else (some false)) else (some false)) = some r := H
                  have A34 := Aside0.mk A340
                  clear A340
                  by_cases c35 : x3_1 = true
                  · subst c35
                    have H1 : (if x4_11 = true then (if x5_23 = true then (if t115 = true then ((arena_within.f a0_12 0 a0_0).bind fun t116 => (if t116 = true then ((arena_within.f a0_13 1 8).bind fun t117 => (some t117)) else (some false))) else (some false)) else (some false)) else (some false)) = some r := by rw [if_pos rfl] at H; exact H
                    clear H
                    have H := H1
                    clear H1
                    by_cases c36 : x4_11 = true
                    · subst c36
                      have H1 : (if x5_23 = true then (if t115 = true then ((arena_within.f a0_12 0 a0_0).bind fun t116 => (if t116 = true then ((arena_within.f a0_13 1 8).bind fun t117 => (some t117)) else (some false))) else (some false)) else (some false)) = some r := by rw [if_pos rfl] at H; exact H
                      clear H
                      have H := H1
                      clear H1
                      by_cases c37 : x5_23 = true
                      · subst c37
                        have H1 : (if t115 = true then ((arena_within.f a0_12 0 a0_0).bind fun t116 => (if t116 = true then ((arena_within.f a0_13 1 8).bind fun t117 => (some t117)) else (some false))) else (some false)) = some r := by rw [if_pos rfl] at H; exact H
                        clear H
                        have H := H1
                        clear H1
                        by_cases c38 : t115 = true
                        · subst c38
                          have H1 : ((arena_within.f a0_12 0 a0_0).bind fun t116 => (if t116 = true then ((arena_within.f a0_13 1 8).bind fun t117 => (some t117)) else (some false))) = some r := by rw [if_pos rfl] at H; exact H
                          clear H
                          have H := H1
                          clear H1
                          replace H := Option.bind_eq_some_iff.mp H
                          obtain ⟨t116, A390, H⟩ := H
                          replace H : (if t116 = true then ((arena_within.f a0_13 1 8).bind fun t117 => (some t117)) else (some false)) = some r := H
                          have A39 := Aside0.mk A390
                          clear A390
                          by_cases c40 : t116 = true
                          · subst c40
                            have H1 : ((arena_within.f a0_13 1 8).bind fun t117 => (some t117)) = some r := by rw [if_pos rfl] at H; exact H
                            clear H
                            have H := H1
                            clear H1
                            replace H := Option.bind_eq_some_iff.mp H
                            obtain ⟨t117, A410, H⟩ := H
                            replace H : (some t117) = some r := H
                            have A41 := Aside0.mk A410
                            clear A410
                            obtain rfl := Option.some.inj H
                            have hcz42_0 : wc.cell? ⟨gb103, 0, none⟩ = some (.int .i64 a0_0) := (blk_cell BK103.out 0).trans rfl
                            have hcz42_1 : wc.cell? ⟨gb103, 1, none⟩ = some (.int .i64 a0_1) := (blk_cell BK103.out 1).trans rfl
                            have hcz42_2 : wc.cell? ⟨gb103, 2, none⟩ = some (.int .i64 a0_2) := (blk_cell BK103.out 2).trans rfl
                            have hcz42_3 : wc.cell? ⟨gb103, 3, none⟩ = some (.int .i64 a0_3) := (blk_cell BK103.out 3).trans rfl
                            have hcz42_4 : wc.cell? ⟨gb103, 4, none⟩ = some (.int .i64 a0_4) := (blk_cell BK103.out 4).trans rfl
                            have hcz42_5 : wc.cell? ⟨gb103, 5, none⟩ = some (.int .i64 a0_5) := (blk_cell BK103.out 5).trans rfl
                            have hcz42_6 : wc.cell? ⟨gb103, 6, none⟩ = some (.int .i64 a0_6) := (blk_cell BK103.out 6).trans rfl
                            have hcz42_7 : wc.cell? ⟨gb103, 7, none⟩ = some (.int .i64 a0_7) := (blk_cell BK103.out 7).trans rfl
                            have hcz42_8 : wc.cell? ⟨gb103, 8, none⟩ = some (.int .i64 a0_8) := (blk_cell BK103.out 8).trans rfl
                            have hcz42_9 : wc.cell? ⟨gb103, 9, none⟩ = some (.int .i64 a0_9) := (blk_cell BK103.out 9).trans rfl
                            have hcz42_10 : wc.cell? ⟨gb103, 10, none⟩ = some (.int .i64 a0_10) := (blk_cell BK103.out 10).trans rfl
                            have hcz42_11 : wc.cell? ⟨gb103, 11, none⟩ = some (.int .i64 a0_11) := (blk_cell BK103.out 11).trans rfl
                            have hcz42_12 : wc.cell? ⟨gb103, 12, none⟩ = some (.int .i64 a0_12) := (blk_cell BK103.out 12).trans rfl
                            have hcz42_13 : wc.cell? ⟨gb103, 13, none⟩ = some (.int .i64 a0_13) := (blk_cell BK103.out 13).trans rfl
                            have hfz42_0 := blk_frozen BK103.out 0
                            have hfz42_1 := blk_frozen BK103.out 1
                            have hfz42_2 := blk_frozen BK103.out 2
                            have hfz42_3 := blk_frozen BK103.out 3
                            have hfz42_4 := blk_frozen BK103.out 4
                            have hfz42_5 := blk_frozen BK103.out 5
                            have hfz42_6 := blk_frozen BK103.out 6
                            have hfz42_7 := blk_frozen BK103.out 7
                            have hfz42_8 := blk_frozen BK103.out 8
                            have hfz42_9 := blk_frozen BK103.out 9
                            have hfz42_10 := blk_frozen BK103.out 10
                            have hfz42_11 := blk_frozen BK103.out 11
                            have hfz42_12 := blk_frozen BK103.out 12
                            have hfz42_13 := blk_frozen BK103.out 13
                            go_wp2_with (first | ((with_reducible refine gate_callee (f := 19) rfl ?_); refine goesL_ (some 50) rfl rfl Try.func19 (by kernel_rfl) rfl #[.int .i64 a0_9, .int .i64 1, .int .i64 8] rfl (by (try simp only [List.map_toArray, List.map_cons, List.map_nil]); first | done | rfl | (simp only [List.length_drop, List.length_take]; rfl)) ?_; (with_reducible refine (arena_within.calls a0_9 1 8 true _ A30.out).mono ?_); rintro e w' ⟨rfl, ⟨nd, rfl⟩⟩; refine ⟨_, rfl, ?_⟩) | (go_at_call 19; (with_reducible refine (arena_within.calls a0_10 1 4096 true _ A32.out).mono ?_); rintro e w' ⟨rfl, ⟨nd, rfl⟩⟩) | (go_at_call 19; (with_reducible refine (arena_within.calls a0_11 0 1024 true _ A34.out).mono ?_); rintro e w' ⟨rfl, ⟨nd, rfl⟩⟩) | (go_at_call 19; (with_reducible refine (arena_within.calls a0_12 0 a0_0 true _ A39.out).mono ?_); rintro e w' ⟨rfl, ⟨nd, rfl⟩⟩) | (go_at_call 19; (with_reducible refine (arena_within.calls a0_13 1 8 t117 _ A41.out).mono ?_); rintro e w' ⟨rfl, ⟨nd, rfl⟩⟩))
                            go_ret
                            exact ⟨by first | rfl | (simp [errW_none, errW_some] <;> rfl) | (simp [*, errW_none, errW_some] <;> rfl), by repeat (first | (with_reducible first | exact HB.out | apply below_alloc | apply pw_below_drewN | apply below_drew1 | refine below_set ?_ GE103.out) | exact HB.out)⟩
                          · replace c40 := Bool.eq_false_iff.mpr c40
                            subst c40
                            have H1 : (some false) = some r := by rw [if_neg (show ¬ (false = true) by decide)] at H; exact H
                            clear H
                            have H := H1
                            clear H1
                            obtain rfl := Option.some.inj H
                            have hcz43_0 : wc.cell? ⟨gb103, 0, none⟩ = some (.int .i64 a0_0) := (blk_cell BK103.out 0).trans rfl
                            have hcz43_1 : wc.cell? ⟨gb103, 1, none⟩ = some (.int .i64 a0_1) := (blk_cell BK103.out 1).trans rfl
                            have hcz43_2 : wc.cell? ⟨gb103, 2, none⟩ = some (.int .i64 a0_2) := (blk_cell BK103.out 2).trans rfl
                            have hcz43_3 : wc.cell? ⟨gb103, 3, none⟩ = some (.int .i64 a0_3) := (blk_cell BK103.out 3).trans rfl
                            have hcz43_4 : wc.cell? ⟨gb103, 4, none⟩ = some (.int .i64 a0_4) := (blk_cell BK103.out 4).trans rfl
                            have hcz43_5 : wc.cell? ⟨gb103, 5, none⟩ = some (.int .i64 a0_5) := (blk_cell BK103.out 5).trans rfl
                            have hcz43_6 : wc.cell? ⟨gb103, 6, none⟩ = some (.int .i64 a0_6) := (blk_cell BK103.out 6).trans rfl
                            have hcz43_7 : wc.cell? ⟨gb103, 7, none⟩ = some (.int .i64 a0_7) := (blk_cell BK103.out 7).trans rfl
                            have hcz43_8 : wc.cell? ⟨gb103, 8, none⟩ = some (.int .i64 a0_8) := (blk_cell BK103.out 8).trans rfl
                            have hcz43_9 : wc.cell? ⟨gb103, 9, none⟩ = some (.int .i64 a0_9) := (blk_cell BK103.out 9).trans rfl
                            have hcz43_10 : wc.cell? ⟨gb103, 10, none⟩ = some (.int .i64 a0_10) := (blk_cell BK103.out 10).trans rfl
                            have hcz43_11 : wc.cell? ⟨gb103, 11, none⟩ = some (.int .i64 a0_11) := (blk_cell BK103.out 11).trans rfl
                            have hcz43_12 : wc.cell? ⟨gb103, 12, none⟩ = some (.int .i64 a0_12) := (blk_cell BK103.out 12).trans rfl
                            have hcz43_13 : wc.cell? ⟨gb103, 13, none⟩ = some (.int .i64 a0_13) := (blk_cell BK103.out 13).trans rfl
                            have hfz43_0 := blk_frozen BK103.out 0
                            have hfz43_1 := blk_frozen BK103.out 1
                            have hfz43_2 := blk_frozen BK103.out 2
                            have hfz43_3 := blk_frozen BK103.out 3
                            have hfz43_4 := blk_frozen BK103.out 4
                            have hfz43_5 := blk_frozen BK103.out 5
                            have hfz43_6 := blk_frozen BK103.out 6
                            have hfz43_7 := blk_frozen BK103.out 7
                            have hfz43_8 := blk_frozen BK103.out 8
                            have hfz43_9 := blk_frozen BK103.out 9
                            have hfz43_10 := blk_frozen BK103.out 10
                            have hfz43_11 := blk_frozen BK103.out 11
                            have hfz43_12 := blk_frozen BK103.out 12
                            have hfz43_13 := blk_frozen BK103.out 13
                            go_wp2_with (first | ((with_reducible refine gate_callee (f := 19) rfl ?_); refine goesL_ (some 50) rfl rfl Try.func19 (by kernel_rfl) rfl #[.int .i64 a0_9, .int .i64 1, .int .i64 8] rfl (by (try simp only [List.map_toArray, List.map_cons, List.map_nil]); first | done | rfl | (simp only [List.length_drop, List.length_take]; rfl)) ?_; (with_reducible refine (arena_within.calls a0_9 1 8 true _ A30.out).mono ?_); rintro e w' ⟨rfl, ⟨nd, rfl⟩⟩; refine ⟨_, rfl, ?_⟩) | (go_at_call 19; (with_reducible refine (arena_within.calls a0_10 1 4096 true _ A32.out).mono ?_); rintro e w' ⟨rfl, ⟨nd, rfl⟩⟩) | (go_at_call 19; (with_reducible refine (arena_within.calls a0_11 0 1024 true _ A34.out).mono ?_); rintro e w' ⟨rfl, ⟨nd, rfl⟩⟩) | (go_at_call 19; (with_reducible refine (arena_within.calls a0_12 0 a0_0 false _ A39.out).mono ?_); rintro e w' ⟨rfl, ⟨nd, rfl⟩⟩))
                            go_ret
                            exact ⟨by first | rfl | (simp [errW_none, errW_some] <;> rfl) | (simp [*, errW_none, errW_some] <;> rfl), by repeat (first | (with_reducible first | exact HB.out | apply below_alloc | apply pw_below_drewN | apply below_drew1 | refine below_set ?_ GE103.out) | exact HB.out)⟩
                        · replace c38 := Bool.eq_false_iff.mpr c38
                          subst c38
                          have H1 : (some false) = some r := by rw [if_neg (show ¬ (false = true) by decide)] at H; exact H
                          clear H
                          have H := H1
                          clear H1
                          obtain rfl := Option.some.inj H
                          have hcz44_0 : wc.cell? ⟨gb103, 0, none⟩ = some (.int .i64 a0_0) := (blk_cell BK103.out 0).trans rfl
                          have hcz44_1 : wc.cell? ⟨gb103, 1, none⟩ = some (.int .i64 a0_1) := (blk_cell BK103.out 1).trans rfl
                          have hcz44_2 : wc.cell? ⟨gb103, 2, none⟩ = some (.int .i64 a0_2) := (blk_cell BK103.out 2).trans rfl
                          have hcz44_3 : wc.cell? ⟨gb103, 3, none⟩ = some (.int .i64 a0_3) := (blk_cell BK103.out 3).trans rfl
                          have hcz44_4 : wc.cell? ⟨gb103, 4, none⟩ = some (.int .i64 a0_4) := (blk_cell BK103.out 4).trans rfl
                          have hcz44_5 : wc.cell? ⟨gb103, 5, none⟩ = some (.int .i64 a0_5) := (blk_cell BK103.out 5).trans rfl
                          have hcz44_6 : wc.cell? ⟨gb103, 6, none⟩ = some (.int .i64 a0_6) := (blk_cell BK103.out 6).trans rfl
                          have hcz44_7 : wc.cell? ⟨gb103, 7, none⟩ = some (.int .i64 a0_7) := (blk_cell BK103.out 7).trans rfl
                          have hcz44_8 : wc.cell? ⟨gb103, 8, none⟩ = some (.int .i64 a0_8) := (blk_cell BK103.out 8).trans rfl
                          have hcz44_9 : wc.cell? ⟨gb103, 9, none⟩ = some (.int .i64 a0_9) := (blk_cell BK103.out 9).trans rfl
                          have hcz44_10 : wc.cell? ⟨gb103, 10, none⟩ = some (.int .i64 a0_10) := (blk_cell BK103.out 10).trans rfl
                          have hcz44_11 : wc.cell? ⟨gb103, 11, none⟩ = some (.int .i64 a0_11) := (blk_cell BK103.out 11).trans rfl
                          have hcz44_12 : wc.cell? ⟨gb103, 12, none⟩ = some (.int .i64 a0_12) := (blk_cell BK103.out 12).trans rfl
                          have hcz44_13 : wc.cell? ⟨gb103, 13, none⟩ = some (.int .i64 a0_13) := (blk_cell BK103.out 13).trans rfl
                          have hfz44_0 := blk_frozen BK103.out 0
                          have hfz44_1 := blk_frozen BK103.out 1
                          have hfz44_2 := blk_frozen BK103.out 2
                          have hfz44_3 := blk_frozen BK103.out 3
                          have hfz44_4 := blk_frozen BK103.out 4
                          have hfz44_5 := blk_frozen BK103.out 5
                          have hfz44_6 := blk_frozen BK103.out 6
                          have hfz44_7 := blk_frozen BK103.out 7
                          have hfz44_8 := blk_frozen BK103.out 8
                          have hfz44_9 := blk_frozen BK103.out 9
                          have hfz44_10 := blk_frozen BK103.out 10
                          have hfz44_11 := blk_frozen BK103.out 11
                          have hfz44_12 := blk_frozen BK103.out 12
                          have hfz44_13 := blk_frozen BK103.out 13
                          go_wp2_with (first | ((with_reducible refine gate_callee (f := 19) rfl ?_); refine goesL_ (some 50) rfl rfl Try.func19 (by kernel_rfl) rfl #[.int .i64 a0_9, .int .i64 1, .int .i64 8] rfl (by (try simp only [List.map_toArray, List.map_cons, List.map_nil]); first | done | rfl | (simp only [List.length_drop, List.length_take]; rfl)) ?_; (with_reducible refine (arena_within.calls a0_9 1 8 true _ A30.out).mono ?_); rintro e w' ⟨rfl, ⟨nd, rfl⟩⟩; refine ⟨_, rfl, ?_⟩) | (go_at_call 19; (with_reducible refine (arena_within.calls a0_10 1 4096 true _ A32.out).mono ?_); rintro e w' ⟨rfl, ⟨nd, rfl⟩⟩) | (go_at_call 19; (with_reducible refine (arena_within.calls a0_11 0 1024 false _ A34.out).mono ?_); rintro e w' ⟨rfl, ⟨nd, rfl⟩⟩))
                          go_ret
                          exact ⟨by first | rfl | (simp [errW_none, errW_some] <;> rfl) | (simp [*, errW_none, errW_some] <;> rfl), by repeat (first | (with_reducible first | exact HB.out | apply below_alloc | apply pw_below_drewN | apply below_drew1 | refine below_set ?_ GE103.out) | exact HB.out)⟩
                      · replace c37 := Bool.eq_false_iff.mpr c37
                        subst c37
                        have H1 : (some false) = some r := by rw [if_neg (show ¬ (false = true) by decide)] at H; exact H
                        clear H
                        have H := H1
                        clear H1
                        obtain rfl := Option.some.inj H
                        have hcz45_0 : wc.cell? ⟨gb103, 0, none⟩ = some (.int .i64 a0_0) := (blk_cell BK103.out 0).trans rfl
                        have hcz45_1 : wc.cell? ⟨gb103, 1, none⟩ = some (.int .i64 a0_1) := (blk_cell BK103.out 1).trans rfl
                        have hcz45_2 : wc.cell? ⟨gb103, 2, none⟩ = some (.int .i64 a0_2) := (blk_cell BK103.out 2).trans rfl
                        have hcz45_3 : wc.cell? ⟨gb103, 3, none⟩ = some (.int .i64 a0_3) := (blk_cell BK103.out 3).trans rfl
                        have hcz45_4 : wc.cell? ⟨gb103, 4, none⟩ = some (.int .i64 a0_4) := (blk_cell BK103.out 4).trans rfl
                        have hcz45_5 : wc.cell? ⟨gb103, 5, none⟩ = some (.int .i64 a0_5) := (blk_cell BK103.out 5).trans rfl
                        have hcz45_6 : wc.cell? ⟨gb103, 6, none⟩ = some (.int .i64 a0_6) := (blk_cell BK103.out 6).trans rfl
                        have hcz45_7 : wc.cell? ⟨gb103, 7, none⟩ = some (.int .i64 a0_7) := (blk_cell BK103.out 7).trans rfl
                        have hcz45_8 : wc.cell? ⟨gb103, 8, none⟩ = some (.int .i64 a0_8) := (blk_cell BK103.out 8).trans rfl
                        have hcz45_9 : wc.cell? ⟨gb103, 9, none⟩ = some (.int .i64 a0_9) := (blk_cell BK103.out 9).trans rfl
                        have hcz45_10 : wc.cell? ⟨gb103, 10, none⟩ = some (.int .i64 a0_10) := (blk_cell BK103.out 10).trans rfl
                        have hcz45_11 : wc.cell? ⟨gb103, 11, none⟩ = some (.int .i64 a0_11) := (blk_cell BK103.out 11).trans rfl
                        have hcz45_12 : wc.cell? ⟨gb103, 12, none⟩ = some (.int .i64 a0_12) := (blk_cell BK103.out 12).trans rfl
                        have hcz45_13 : wc.cell? ⟨gb103, 13, none⟩ = some (.int .i64 a0_13) := (blk_cell BK103.out 13).trans rfl
                        have hfz45_0 := blk_frozen BK103.out 0
                        have hfz45_1 := blk_frozen BK103.out 1
                        have hfz45_2 := blk_frozen BK103.out 2
                        have hfz45_3 := blk_frozen BK103.out 3
                        have hfz45_4 := blk_frozen BK103.out 4
                        have hfz45_5 := blk_frozen BK103.out 5
                        have hfz45_6 := blk_frozen BK103.out 6
                        have hfz45_7 := blk_frozen BK103.out 7
                        have hfz45_8 := blk_frozen BK103.out 8
                        have hfz45_9 := blk_frozen BK103.out 9
                        have hfz45_10 := blk_frozen BK103.out 10
                        have hfz45_11 := blk_frozen BK103.out 11
                        have hfz45_12 := blk_frozen BK103.out 12
                        have hfz45_13 := blk_frozen BK103.out 13
                        go_wp2_with (first | ((with_reducible refine gate_callee (f := 19) rfl ?_); refine goesL_ (some 50) rfl rfl Try.func19 (by kernel_rfl) rfl #[.int .i64 a0_9, .int .i64 1, .int .i64 8] rfl (by (try simp only [List.map_toArray, List.map_cons, List.map_nil]); first | done | rfl | (simp only [List.length_drop, List.length_take]; rfl)) ?_; (with_reducible refine (arena_within.calls a0_9 1 8 true _ A30.out).mono ?_); rintro e w' ⟨rfl, ⟨nd, rfl⟩⟩; refine ⟨_, rfl, ?_⟩) | (go_at_call 19; (with_reducible refine (arena_within.calls a0_10 1 4096 true _ A32.out).mono ?_); rintro e w' ⟨rfl, ⟨nd, rfl⟩⟩) | (go_at_call 19; (with_reducible refine (arena_within.calls a0_11 0 1024 t115 _ A34.out).mono ?_); rintro e w' ⟨rfl, ⟨nd, rfl⟩⟩))
                        go_ret
                        exact ⟨by first | rfl | (simp [errW_none, errW_some] <;> rfl) | (simp [*, errW_none, errW_some] <;> rfl), by repeat (first | (with_reducible first | exact HB.out | apply below_alloc | apply pw_below_drewN | apply below_drew1 | refine below_set ?_ GE103.out) | exact HB.out)⟩
                    · replace c36 := Bool.eq_false_iff.mpr c36
                      subst c36
                      have H1 : (some false) = some r := by rw [if_neg (show ¬ (false = true) by decide)] at H; exact H
                      clear H
                      have H := H1
                      clear H1
                      obtain rfl := Option.some.inj H
                      have hcz46_0 : wc.cell? ⟨gb103, 0, none⟩ = some (.int .i64 a0_0) := (blk_cell BK103.out 0).trans rfl
                      have hcz46_1 : wc.cell? ⟨gb103, 1, none⟩ = some (.int .i64 a0_1) := (blk_cell BK103.out 1).trans rfl
                      have hcz46_2 : wc.cell? ⟨gb103, 2, none⟩ = some (.int .i64 a0_2) := (blk_cell BK103.out 2).trans rfl
                      have hcz46_3 : wc.cell? ⟨gb103, 3, none⟩ = some (.int .i64 a0_3) := (blk_cell BK103.out 3).trans rfl
                      have hcz46_4 : wc.cell? ⟨gb103, 4, none⟩ = some (.int .i64 a0_4) := (blk_cell BK103.out 4).trans rfl
                      have hcz46_5 : wc.cell? ⟨gb103, 5, none⟩ = some (.int .i64 a0_5) := (blk_cell BK103.out 5).trans rfl
                      have hcz46_6 : wc.cell? ⟨gb103, 6, none⟩ = some (.int .i64 a0_6) := (blk_cell BK103.out 6).trans rfl
                      have hcz46_7 : wc.cell? ⟨gb103, 7, none⟩ = some (.int .i64 a0_7) := (blk_cell BK103.out 7).trans rfl
                      have hcz46_8 : wc.cell? ⟨gb103, 8, none⟩ = some (.int .i64 a0_8) := (blk_cell BK103.out 8).trans rfl
                      have hcz46_9 : wc.cell? ⟨gb103, 9, none⟩ = some (.int .i64 a0_9) := (blk_cell BK103.out 9).trans rfl
                      have hcz46_10 : wc.cell? ⟨gb103, 10, none⟩ = some (.int .i64 a0_10) := (blk_cell BK103.out 10).trans rfl
                      have hcz46_11 : wc.cell? ⟨gb103, 11, none⟩ = some (.int .i64 a0_11) := (blk_cell BK103.out 11).trans rfl
                      have hcz46_12 : wc.cell? ⟨gb103, 12, none⟩ = some (.int .i64 a0_12) := (blk_cell BK103.out 12).trans rfl
                      have hcz46_13 : wc.cell? ⟨gb103, 13, none⟩ = some (.int .i64 a0_13) := (blk_cell BK103.out 13).trans rfl
                      have hfz46_0 := blk_frozen BK103.out 0
                      have hfz46_1 := blk_frozen BK103.out 1
                      have hfz46_2 := blk_frozen BK103.out 2
                      have hfz46_3 := blk_frozen BK103.out 3
                      have hfz46_4 := blk_frozen BK103.out 4
                      have hfz46_5 := blk_frozen BK103.out 5
                      have hfz46_6 := blk_frozen BK103.out 6
                      have hfz46_7 := blk_frozen BK103.out 7
                      have hfz46_8 := blk_frozen BK103.out 8
                      have hfz46_9 := blk_frozen BK103.out 9
                      have hfz46_10 := blk_frozen BK103.out 10
                      have hfz46_11 := blk_frozen BK103.out 11
                      have hfz46_12 := blk_frozen BK103.out 12
                      have hfz46_13 := blk_frozen BK103.out 13
                      go_wp2_with (first | ((with_reducible refine gate_callee (f := 19) rfl ?_); refine goesL_ (some 50) rfl rfl Try.func19 (by kernel_rfl) rfl #[.int .i64 a0_9, .int .i64 1, .int .i64 8] rfl (by (try simp only [List.map_toArray, List.map_cons, List.map_nil]); first | done | rfl | (simp only [List.length_drop, List.length_take]; rfl)) ?_; (with_reducible refine (arena_within.calls a0_9 1 8 true _ A30.out).mono ?_); rintro e w' ⟨rfl, ⟨nd, rfl⟩⟩; refine ⟨_, rfl, ?_⟩) | (go_at_call 19; (with_reducible refine (arena_within.calls a0_10 1 4096 true _ A32.out).mono ?_); rintro e w' ⟨rfl, ⟨nd, rfl⟩⟩) | (go_at_call 19; (with_reducible refine (arena_within.calls a0_11 0 1024 t115 _ A34.out).mono ?_); rintro e w' ⟨rfl, ⟨nd, rfl⟩⟩))
                      go_ret
                      exact ⟨by first | rfl | (simp [errW_none, errW_some] <;> rfl) | (simp [*, errW_none, errW_some] <;> rfl), by repeat (first | (with_reducible first | exact HB.out | apply below_alloc | apply pw_below_drewN | apply below_drew1 | refine below_set ?_ GE103.out) | exact HB.out)⟩
                  · replace c35 := Bool.eq_false_iff.mpr c35
                    subst c35
                    have H1 : (some false) = some r := by rw [if_neg (show ¬ (false = true) by decide)] at H; exact H
                    clear H
                    have H := H1
                    clear H1
                    obtain rfl := Option.some.inj H
                    have hcz47_0 : wc.cell? ⟨gb103, 0, none⟩ = some (.int .i64 a0_0) := (blk_cell BK103.out 0).trans rfl
                    have hcz47_1 : wc.cell? ⟨gb103, 1, none⟩ = some (.int .i64 a0_1) := (blk_cell BK103.out 1).trans rfl
                    have hcz47_2 : wc.cell? ⟨gb103, 2, none⟩ = some (.int .i64 a0_2) := (blk_cell BK103.out 2).trans rfl
                    have hcz47_3 : wc.cell? ⟨gb103, 3, none⟩ = some (.int .i64 a0_3) := (blk_cell BK103.out 3).trans rfl
                    have hcz47_4 : wc.cell? ⟨gb103, 4, none⟩ = some (.int .i64 a0_4) := (blk_cell BK103.out 4).trans rfl
                    have hcz47_5 : wc.cell? ⟨gb103, 5, none⟩ = some (.int .i64 a0_5) := (blk_cell BK103.out 5).trans rfl
                    have hcz47_6 : wc.cell? ⟨gb103, 6, none⟩ = some (.int .i64 a0_6) := (blk_cell BK103.out 6).trans rfl
                    have hcz47_7 : wc.cell? ⟨gb103, 7, none⟩ = some (.int .i64 a0_7) := (blk_cell BK103.out 7).trans rfl
                    have hcz47_8 : wc.cell? ⟨gb103, 8, none⟩ = some (.int .i64 a0_8) := (blk_cell BK103.out 8).trans rfl
                    have hcz47_9 : wc.cell? ⟨gb103, 9, none⟩ = some (.int .i64 a0_9) := (blk_cell BK103.out 9).trans rfl
                    have hcz47_10 : wc.cell? ⟨gb103, 10, none⟩ = some (.int .i64 a0_10) := (blk_cell BK103.out 10).trans rfl
                    have hcz47_11 : wc.cell? ⟨gb103, 11, none⟩ = some (.int .i64 a0_11) := (blk_cell BK103.out 11).trans rfl
                    have hcz47_12 : wc.cell? ⟨gb103, 12, none⟩ = some (.int .i64 a0_12) := (blk_cell BK103.out 12).trans rfl
                    have hcz47_13 : wc.cell? ⟨gb103, 13, none⟩ = some (.int .i64 a0_13) := (blk_cell BK103.out 13).trans rfl
                    have hfz47_0 := blk_frozen BK103.out 0
                    have hfz47_1 := blk_frozen BK103.out 1
                    have hfz47_2 := blk_frozen BK103.out 2
                    have hfz47_3 := blk_frozen BK103.out 3
                    have hfz47_4 := blk_frozen BK103.out 4
                    have hfz47_5 := blk_frozen BK103.out 5
                    have hfz47_6 := blk_frozen BK103.out 6
                    have hfz47_7 := blk_frozen BK103.out 7
                    have hfz47_8 := blk_frozen BK103.out 8
                    have hfz47_9 := blk_frozen BK103.out 9
                    have hfz47_10 := blk_frozen BK103.out 10
                    have hfz47_11 := blk_frozen BK103.out 11
                    have hfz47_12 := blk_frozen BK103.out 12
                    have hfz47_13 := blk_frozen BK103.out 13
                    go_wp2_with (first | ((with_reducible refine gate_callee (f := 19) rfl ?_); refine goesL_ (some 50) rfl rfl Try.func19 (by kernel_rfl) rfl #[.int .i64 a0_9, .int .i64 1, .int .i64 8] rfl (by (try simp only [List.map_toArray, List.map_cons, List.map_nil]); first | done | rfl | (simp only [List.length_drop, List.length_take]; rfl)) ?_; (with_reducible refine (arena_within.calls a0_9 1 8 true _ A30.out).mono ?_); rintro e w' ⟨rfl, ⟨nd, rfl⟩⟩; refine ⟨_, rfl, ?_⟩) | (go_at_call 19; (with_reducible refine (arena_within.calls a0_10 1 4096 true _ A32.out).mono ?_); rintro e w' ⟨rfl, ⟨nd, rfl⟩⟩) | (go_at_call 19; (with_reducible refine (arena_within.calls a0_11 0 1024 t115 _ A34.out).mono ?_); rintro e w' ⟨rfl, ⟨nd, rfl⟩⟩))
                    go_ret
                    exact ⟨by first | rfl | (simp [errW_none, errW_some] <;> rfl) | (simp [*, errW_none, errW_some] <;> rfl), by repeat (first | (with_reducible first | exact HB.out | apply below_alloc | apply pw_below_drewN | apply below_drew1 | refine below_set ?_ GE103.out) | exact HB.out)⟩
                · replace c33 := Bool.eq_false_iff.mpr c33
                  subst c33
                  have H1 : (if x3_1 = true then (if x4_11 = true then (if x5_23 = true then (some false) else (some false)) else (some false)) else (some false)) = some r := by rw [if_neg (show ¬ (false = true) by decide)] at H; exact H
                  clear H
                  have H := H1
                  clear H1
                  by_cases c48 : x3_1 = true
                  · subst c48
                    have H1 : (if x4_11 = true then (if x5_23 = true then (some false) else (some false)) else (some false)) = some r := by rw [if_pos rfl] at H; exact H
                    clear H
                    have H := H1
                    clear H1
                    by_cases c49 : x4_11 = true
                    · subst c49
                      have H1 : (if x5_23 = true then (some false) else (some false)) = some r := by rw [if_pos rfl] at H; exact H
                      clear H
                      have H := H1
                      clear H1
                      by_cases c50 : x5_23 = true
                      · subst c50
                        have H1 : (some false) = some r := by rw [if_pos rfl] at H; exact H
                        clear H
                        have H := H1
                        clear H1
                        obtain rfl := Option.some.inj H
                        have hcz51_0 : wc.cell? ⟨gb103, 0, none⟩ = some (.int .i64 a0_0) := (blk_cell BK103.out 0).trans rfl
                        have hcz51_1 : wc.cell? ⟨gb103, 1, none⟩ = some (.int .i64 a0_1) := (blk_cell BK103.out 1).trans rfl
                        have hcz51_2 : wc.cell? ⟨gb103, 2, none⟩ = some (.int .i64 a0_2) := (blk_cell BK103.out 2).trans rfl
                        have hcz51_3 : wc.cell? ⟨gb103, 3, none⟩ = some (.int .i64 a0_3) := (blk_cell BK103.out 3).trans rfl
                        have hcz51_4 : wc.cell? ⟨gb103, 4, none⟩ = some (.int .i64 a0_4) := (blk_cell BK103.out 4).trans rfl
                        have hcz51_5 : wc.cell? ⟨gb103, 5, none⟩ = some (.int .i64 a0_5) := (blk_cell BK103.out 5).trans rfl
                        have hcz51_6 : wc.cell? ⟨gb103, 6, none⟩ = some (.int .i64 a0_6) := (blk_cell BK103.out 6).trans rfl
                        have hcz51_7 : wc.cell? ⟨gb103, 7, none⟩ = some (.int .i64 a0_7) := (blk_cell BK103.out 7).trans rfl
                        have hcz51_8 : wc.cell? ⟨gb103, 8, none⟩ = some (.int .i64 a0_8) := (blk_cell BK103.out 8).trans rfl
                        have hcz51_9 : wc.cell? ⟨gb103, 9, none⟩ = some (.int .i64 a0_9) := (blk_cell BK103.out 9).trans rfl
                        have hcz51_10 : wc.cell? ⟨gb103, 10, none⟩ = some (.int .i64 a0_10) := (blk_cell BK103.out 10).trans rfl
                        have hcz51_11 : wc.cell? ⟨gb103, 11, none⟩ = some (.int .i64 a0_11) := (blk_cell BK103.out 11).trans rfl
                        have hcz51_12 : wc.cell? ⟨gb103, 12, none⟩ = some (.int .i64 a0_12) := (blk_cell BK103.out 12).trans rfl
                        have hcz51_13 : wc.cell? ⟨gb103, 13, none⟩ = some (.int .i64 a0_13) := (blk_cell BK103.out 13).trans rfl
                        have hfz51_0 := blk_frozen BK103.out 0
                        have hfz51_1 := blk_frozen BK103.out 1
                        have hfz51_2 := blk_frozen BK103.out 2
                        have hfz51_3 := blk_frozen BK103.out 3
                        have hfz51_4 := blk_frozen BK103.out 4
                        have hfz51_5 := blk_frozen BK103.out 5
                        have hfz51_6 := blk_frozen BK103.out 6
                        have hfz51_7 := blk_frozen BK103.out 7
                        have hfz51_8 := blk_frozen BK103.out 8
                        have hfz51_9 := blk_frozen BK103.out 9
                        have hfz51_10 := blk_frozen BK103.out 10
                        have hfz51_11 := blk_frozen BK103.out 11
                        have hfz51_12 := blk_frozen BK103.out 12
                        have hfz51_13 := blk_frozen BK103.out 13
                        go_wp2_with (first | ((with_reducible refine gate_callee (f := 19) rfl ?_); refine goesL_ (some 50) rfl rfl Try.func19 (by kernel_rfl) rfl #[.int .i64 a0_9, .int .i64 1, .int .i64 8] rfl (by (try simp only [List.map_toArray, List.map_cons, List.map_nil]); first | done | rfl | (simp only [List.length_drop, List.length_take]; rfl)) ?_; (with_reducible refine (arena_within.calls a0_9 1 8 true _ A30.out).mono ?_); rintro e w' ⟨rfl, ⟨nd, rfl⟩⟩; refine ⟨_, rfl, ?_⟩) | (go_at_call 19; (with_reducible refine (arena_within.calls a0_10 1 4096 false _ A32.out).mono ?_); rintro e w' ⟨rfl, ⟨nd, rfl⟩⟩))
                        go_ret
                        exact ⟨by first | rfl | (simp [errW_none, errW_some] <;> rfl) | (simp [*, errW_none, errW_some] <;> rfl), by repeat (first | (with_reducible first | exact HB.out | apply below_alloc | apply pw_below_drewN | apply below_drew1 | refine below_set ?_ GE103.out) | exact HB.out)⟩
                      · replace c50 := Bool.eq_false_iff.mpr c50
                        subst c50
                        have H1 : (some false) = some r := by rw [if_neg (show ¬ (false = true) by decide)] at H; exact H
                        clear H
                        have H := H1
                        clear H1
                        obtain rfl := Option.some.inj H
                        have hcz52_0 : wc.cell? ⟨gb103, 0, none⟩ = some (.int .i64 a0_0) := (blk_cell BK103.out 0).trans rfl
                        have hcz52_1 : wc.cell? ⟨gb103, 1, none⟩ = some (.int .i64 a0_1) := (blk_cell BK103.out 1).trans rfl
                        have hcz52_2 : wc.cell? ⟨gb103, 2, none⟩ = some (.int .i64 a0_2) := (blk_cell BK103.out 2).trans rfl
                        have hcz52_3 : wc.cell? ⟨gb103, 3, none⟩ = some (.int .i64 a0_3) := (blk_cell BK103.out 3).trans rfl
                        have hcz52_4 : wc.cell? ⟨gb103, 4, none⟩ = some (.int .i64 a0_4) := (blk_cell BK103.out 4).trans rfl
                        have hcz52_5 : wc.cell? ⟨gb103, 5, none⟩ = some (.int .i64 a0_5) := (blk_cell BK103.out 5).trans rfl
                        have hcz52_6 : wc.cell? ⟨gb103, 6, none⟩ = some (.int .i64 a0_6) := (blk_cell BK103.out 6).trans rfl
                        have hcz52_7 : wc.cell? ⟨gb103, 7, none⟩ = some (.int .i64 a0_7) := (blk_cell BK103.out 7).trans rfl
                        have hcz52_8 : wc.cell? ⟨gb103, 8, none⟩ = some (.int .i64 a0_8) := (blk_cell BK103.out 8).trans rfl
                        have hcz52_9 : wc.cell? ⟨gb103, 9, none⟩ = some (.int .i64 a0_9) := (blk_cell BK103.out 9).trans rfl
                        have hcz52_10 : wc.cell? ⟨gb103, 10, none⟩ = some (.int .i64 a0_10) := (blk_cell BK103.out 10).trans rfl
                        have hcz52_11 : wc.cell? ⟨gb103, 11, none⟩ = some (.int .i64 a0_11) := (blk_cell BK103.out 11).trans rfl
                        have hcz52_12 : wc.cell? ⟨gb103, 12, none⟩ = some (.int .i64 a0_12) := (blk_cell BK103.out 12).trans rfl
                        have hcz52_13 : wc.cell? ⟨gb103, 13, none⟩ = some (.int .i64 a0_13) := (blk_cell BK103.out 13).trans rfl
                        have hfz52_0 := blk_frozen BK103.out 0
                        have hfz52_1 := blk_frozen BK103.out 1
                        have hfz52_2 := blk_frozen BK103.out 2
                        have hfz52_3 := blk_frozen BK103.out 3
                        have hfz52_4 := blk_frozen BK103.out 4
                        have hfz52_5 := blk_frozen BK103.out 5
                        have hfz52_6 := blk_frozen BK103.out 6
                        have hfz52_7 := blk_frozen BK103.out 7
                        have hfz52_8 := blk_frozen BK103.out 8
                        have hfz52_9 := blk_frozen BK103.out 9
                        have hfz52_10 := blk_frozen BK103.out 10
                        have hfz52_11 := blk_frozen BK103.out 11
                        have hfz52_12 := blk_frozen BK103.out 12
                        have hfz52_13 := blk_frozen BK103.out 13
                        go_wp2_with (first | ((with_reducible refine gate_callee (f := 19) rfl ?_); refine goesL_ (some 50) rfl rfl Try.func19 (by kernel_rfl) rfl #[.int .i64 a0_9, .int .i64 1, .int .i64 8] rfl (by (try simp only [List.map_toArray, List.map_cons, List.map_nil]); first | done | rfl | (simp only [List.length_drop, List.length_take]; rfl)) ?_; (with_reducible refine (arena_within.calls a0_9 1 8 true _ A30.out).mono ?_); rintro e w' ⟨rfl, ⟨nd, rfl⟩⟩; refine ⟨_, rfl, ?_⟩) | (go_at_call 19; (with_reducible refine (arena_within.calls a0_10 1 4096 false _ A32.out).mono ?_); rintro e w' ⟨rfl, ⟨nd, rfl⟩⟩))
                        go_ret
                        exact ⟨by first | rfl | (simp [errW_none, errW_some] <;> rfl) | (simp [*, errW_none, errW_some] <;> rfl), by repeat (first | (with_reducible first | exact HB.out | apply below_alloc | apply pw_below_drewN | apply below_drew1 | refine below_set ?_ GE103.out) | exact HB.out)⟩
                    · replace c49 := Bool.eq_false_iff.mpr c49
                      subst c49
                      have H1 : (some false) = some r := by rw [if_neg (show ¬ (false = true) by decide)] at H; exact H
                      clear H
                      have H := H1
                      clear H1
                      obtain rfl := Option.some.inj H
                      have hcz53_0 : wc.cell? ⟨gb103, 0, none⟩ = some (.int .i64 a0_0) := (blk_cell BK103.out 0).trans rfl
                      have hcz53_1 : wc.cell? ⟨gb103, 1, none⟩ = some (.int .i64 a0_1) := (blk_cell BK103.out 1).trans rfl
                      have hcz53_2 : wc.cell? ⟨gb103, 2, none⟩ = some (.int .i64 a0_2) := (blk_cell BK103.out 2).trans rfl
                      have hcz53_3 : wc.cell? ⟨gb103, 3, none⟩ = some (.int .i64 a0_3) := (blk_cell BK103.out 3).trans rfl
                      have hcz53_4 : wc.cell? ⟨gb103, 4, none⟩ = some (.int .i64 a0_4) := (blk_cell BK103.out 4).trans rfl
                      have hcz53_5 : wc.cell? ⟨gb103, 5, none⟩ = some (.int .i64 a0_5) := (blk_cell BK103.out 5).trans rfl
                      have hcz53_6 : wc.cell? ⟨gb103, 6, none⟩ = some (.int .i64 a0_6) := (blk_cell BK103.out 6).trans rfl
                      have hcz53_7 : wc.cell? ⟨gb103, 7, none⟩ = some (.int .i64 a0_7) := (blk_cell BK103.out 7).trans rfl
                      have hcz53_8 : wc.cell? ⟨gb103, 8, none⟩ = some (.int .i64 a0_8) := (blk_cell BK103.out 8).trans rfl
                      have hcz53_9 : wc.cell? ⟨gb103, 9, none⟩ = some (.int .i64 a0_9) := (blk_cell BK103.out 9).trans rfl
                      have hcz53_10 : wc.cell? ⟨gb103, 10, none⟩ = some (.int .i64 a0_10) := (blk_cell BK103.out 10).trans rfl
                      have hcz53_11 : wc.cell? ⟨gb103, 11, none⟩ = some (.int .i64 a0_11) := (blk_cell BK103.out 11).trans rfl
                      have hcz53_12 : wc.cell? ⟨gb103, 12, none⟩ = some (.int .i64 a0_12) := (blk_cell BK103.out 12).trans rfl
                      have hcz53_13 : wc.cell? ⟨gb103, 13, none⟩ = some (.int .i64 a0_13) := (blk_cell BK103.out 13).trans rfl
                      have hfz53_0 := blk_frozen BK103.out 0
                      have hfz53_1 := blk_frozen BK103.out 1
                      have hfz53_2 := blk_frozen BK103.out 2
                      have hfz53_3 := blk_frozen BK103.out 3
                      have hfz53_4 := blk_frozen BK103.out 4
                      have hfz53_5 := blk_frozen BK103.out 5
                      have hfz53_6 := blk_frozen BK103.out 6
                      have hfz53_7 := blk_frozen BK103.out 7
                      have hfz53_8 := blk_frozen BK103.out 8
                      have hfz53_9 := blk_frozen BK103.out 9
                      have hfz53_10 := blk_frozen BK103.out 10
                      have hfz53_11 := blk_frozen BK103.out 11
                      have hfz53_12 := blk_frozen BK103.out 12
                      have hfz53_13 := blk_frozen BK103.out 13
                      go_wp2_with (first | ((with_reducible refine gate_callee (f := 19) rfl ?_); refine goesL_ (some 50) rfl rfl Try.func19 (by kernel_rfl) rfl #[.int .i64 a0_9, .int .i64 1, .int .i64 8] rfl (by (try simp only [List.map_toArray, List.map_cons, List.map_nil]); first | done | rfl | (simp only [List.length_drop, List.length_take]; rfl)) ?_; (with_reducible refine (arena_within.calls a0_9 1 8 true _ A30.out).mono ?_); rintro e w' ⟨rfl, ⟨nd, rfl⟩⟩; refine ⟨_, rfl, ?_⟩) | (go_at_call 19; (with_reducible refine (arena_within.calls a0_10 1 4096 false _ A32.out).mono ?_); rintro e w' ⟨rfl, ⟨nd, rfl⟩⟩))
                      go_ret
                      exact ⟨by first | rfl | (simp [errW_none, errW_some] <;> rfl) | (simp [*, errW_none, errW_some] <;> rfl), by repeat (first | (with_reducible first | exact HB.out | apply below_alloc | apply pw_below_drewN | apply below_drew1 | refine below_set ?_ GE103.out) | exact HB.out)⟩
                  · replace c48 := Bool.eq_false_iff.mpr c48
                    subst c48
                    have H1 : (some false) = some r := by rw [if_neg (show ¬ (false = true) by decide)] at H; exact H
                    clear H
                    have H := H1
                    clear H1
                    obtain rfl := Option.some.inj H
                    have hcz54_0 : wc.cell? ⟨gb103, 0, none⟩ = some (.int .i64 a0_0) := (blk_cell BK103.out 0).trans rfl
                    have hcz54_1 : wc.cell? ⟨gb103, 1, none⟩ = some (.int .i64 a0_1) := (blk_cell BK103.out 1).trans rfl
                    have hcz54_2 : wc.cell? ⟨gb103, 2, none⟩ = some (.int .i64 a0_2) := (blk_cell BK103.out 2).trans rfl
                    have hcz54_3 : wc.cell? ⟨gb103, 3, none⟩ = some (.int .i64 a0_3) := (blk_cell BK103.out 3).trans rfl
                    have hcz54_4 : wc.cell? ⟨gb103, 4, none⟩ = some (.int .i64 a0_4) := (blk_cell BK103.out 4).trans rfl
                    have hcz54_5 : wc.cell? ⟨gb103, 5, none⟩ = some (.int .i64 a0_5) := (blk_cell BK103.out 5).trans rfl
                    have hcz54_6 : wc.cell? ⟨gb103, 6, none⟩ = some (.int .i64 a0_6) := (blk_cell BK103.out 6).trans rfl
                    have hcz54_7 : wc.cell? ⟨gb103, 7, none⟩ = some (.int .i64 a0_7) := (blk_cell BK103.out 7).trans rfl
                    have hcz54_8 : wc.cell? ⟨gb103, 8, none⟩ = some (.int .i64 a0_8) := (blk_cell BK103.out 8).trans rfl
                    have hcz54_9 : wc.cell? ⟨gb103, 9, none⟩ = some (.int .i64 a0_9) := (blk_cell BK103.out 9).trans rfl
                    have hcz54_10 : wc.cell? ⟨gb103, 10, none⟩ = some (.int .i64 a0_10) := (blk_cell BK103.out 10).trans rfl
                    have hcz54_11 : wc.cell? ⟨gb103, 11, none⟩ = some (.int .i64 a0_11) := (blk_cell BK103.out 11).trans rfl
                    have hcz54_12 : wc.cell? ⟨gb103, 12, none⟩ = some (.int .i64 a0_12) := (blk_cell BK103.out 12).trans rfl
                    have hcz54_13 : wc.cell? ⟨gb103, 13, none⟩ = some (.int .i64 a0_13) := (blk_cell BK103.out 13).trans rfl
                    have hfz54_0 := blk_frozen BK103.out 0
                    have hfz54_1 := blk_frozen BK103.out 1
                    have hfz54_2 := blk_frozen BK103.out 2
                    have hfz54_3 := blk_frozen BK103.out 3
                    have hfz54_4 := blk_frozen BK103.out 4
                    have hfz54_5 := blk_frozen BK103.out 5
                    have hfz54_6 := blk_frozen BK103.out 6
                    have hfz54_7 := blk_frozen BK103.out 7
                    have hfz54_8 := blk_frozen BK103.out 8
                    have hfz54_9 := blk_frozen BK103.out 9
                    have hfz54_10 := blk_frozen BK103.out 10
                    have hfz54_11 := blk_frozen BK103.out 11
                    have hfz54_12 := blk_frozen BK103.out 12
                    have hfz54_13 := blk_frozen BK103.out 13
                    go_wp2_with (first | ((with_reducible refine gate_callee (f := 19) rfl ?_); refine goesL_ (some 50) rfl rfl Try.func19 (by kernel_rfl) rfl #[.int .i64 a0_9, .int .i64 1, .int .i64 8] rfl (by (try simp only [List.map_toArray, List.map_cons, List.map_nil]); first | done | rfl | (simp only [List.length_drop, List.length_take]; rfl)) ?_; (with_reducible refine (arena_within.calls a0_9 1 8 true _ A30.out).mono ?_); rintro e w' ⟨rfl, ⟨nd, rfl⟩⟩; refine ⟨_, rfl, ?_⟩) | (go_at_call 19; (with_reducible refine (arena_within.calls a0_10 1 4096 false _ A32.out).mono ?_); rintro e w' ⟨rfl, ⟨nd, rfl⟩⟩))
                    go_ret
                    exact ⟨by first | rfl | (simp [errW_none, errW_some] <;> rfl) | (simp [*, errW_none, errW_some] <;> rfl), by repeat (first | (with_reducible first | exact HB.out | apply below_alloc | apply pw_below_drewN | apply below_drew1 | refine below_set ?_ GE103.out) | exact HB.out)⟩
              · replace c31 := Bool.eq_false_iff.mpr c31
                subst c31
                have H1 : (if x3_1 = true then (if x4_11 = true then (if x5_23 = true then (some false) else (some false)) else (some false)) else (some false)) = some r := by rw [if_neg (show ¬ (false = true) by decide)] at H; exact H
                clear H
                have H := H1
                clear H1
                by_cases c55 : x3_1 = true
                · subst c55
                  have H1 : (if x4_11 = true then (if x5_23 = true then (some false) else (some false)) else (some false)) = some r := by rw [if_pos rfl] at H; exact H
                  clear H
                  have H := H1
                  clear H1
                  by_cases c56 : x4_11 = true
                  · subst c56
                    have H1 : (if x5_23 = true then (some false) else (some false)) = some r := by rw [if_pos rfl] at H; exact H
                    clear H
                    have H := H1
                    clear H1
                    by_cases c57 : x5_23 = true
                    · subst c57
                      have H1 : (some false) = some r := by rw [if_pos rfl] at H; exact H
                      clear H
                      have H := H1
                      clear H1
                      obtain rfl := Option.some.inj H
                      have hcz58_0 : wc.cell? ⟨gb103, 0, none⟩ = some (.int .i64 a0_0) := (blk_cell BK103.out 0).trans rfl
                      have hcz58_1 : wc.cell? ⟨gb103, 1, none⟩ = some (.int .i64 a0_1) := (blk_cell BK103.out 1).trans rfl
                      have hcz58_2 : wc.cell? ⟨gb103, 2, none⟩ = some (.int .i64 a0_2) := (blk_cell BK103.out 2).trans rfl
                      have hcz58_3 : wc.cell? ⟨gb103, 3, none⟩ = some (.int .i64 a0_3) := (blk_cell BK103.out 3).trans rfl
                      have hcz58_4 : wc.cell? ⟨gb103, 4, none⟩ = some (.int .i64 a0_4) := (blk_cell BK103.out 4).trans rfl
                      have hcz58_5 : wc.cell? ⟨gb103, 5, none⟩ = some (.int .i64 a0_5) := (blk_cell BK103.out 5).trans rfl
                      have hcz58_6 : wc.cell? ⟨gb103, 6, none⟩ = some (.int .i64 a0_6) := (blk_cell BK103.out 6).trans rfl
                      have hcz58_7 : wc.cell? ⟨gb103, 7, none⟩ = some (.int .i64 a0_7) := (blk_cell BK103.out 7).trans rfl
                      have hcz58_8 : wc.cell? ⟨gb103, 8, none⟩ = some (.int .i64 a0_8) := (blk_cell BK103.out 8).trans rfl
                      have hcz58_9 : wc.cell? ⟨gb103, 9, none⟩ = some (.int .i64 a0_9) := (blk_cell BK103.out 9).trans rfl
                      have hcz58_10 : wc.cell? ⟨gb103, 10, none⟩ = some (.int .i64 a0_10) := (blk_cell BK103.out 10).trans rfl
                      have hcz58_11 : wc.cell? ⟨gb103, 11, none⟩ = some (.int .i64 a0_11) := (blk_cell BK103.out 11).trans rfl
                      have hcz58_12 : wc.cell? ⟨gb103, 12, none⟩ = some (.int .i64 a0_12) := (blk_cell BK103.out 12).trans rfl
                      have hcz58_13 : wc.cell? ⟨gb103, 13, none⟩ = some (.int .i64 a0_13) := (blk_cell BK103.out 13).trans rfl
                      have hfz58_0 := blk_frozen BK103.out 0
                      have hfz58_1 := blk_frozen BK103.out 1
                      have hfz58_2 := blk_frozen BK103.out 2
                      have hfz58_3 := blk_frozen BK103.out 3
                      have hfz58_4 := blk_frozen BK103.out 4
                      have hfz58_5 := blk_frozen BK103.out 5
                      have hfz58_6 := blk_frozen BK103.out 6
                      have hfz58_7 := blk_frozen BK103.out 7
                      have hfz58_8 := blk_frozen BK103.out 8
                      have hfz58_9 := blk_frozen BK103.out 9
                      have hfz58_10 := blk_frozen BK103.out 10
                      have hfz58_11 := blk_frozen BK103.out 11
                      have hfz58_12 := blk_frozen BK103.out 12
                      have hfz58_13 := blk_frozen BK103.out 13
                      go_wp2_with (first | ((with_reducible refine gate_callee (f := 19) rfl ?_); refine goesL_ (some 50) rfl rfl Try.func19 (by kernel_rfl) rfl #[.int .i64 a0_9, .int .i64 1, .int .i64 8] rfl (by (try simp only [List.map_toArray, List.map_cons, List.map_nil]); first | done | rfl | (simp only [List.length_drop, List.length_take]; rfl)) ?_; (with_reducible refine (arena_within.calls a0_9 1 8 false _ A30.out).mono ?_); rintro e w' ⟨rfl, ⟨nd, rfl⟩⟩; refine ⟨_, rfl, ?_⟩))
                      go_ret
                      exact ⟨by first | rfl | (simp [errW_none, errW_some] <;> rfl) | (simp [*, errW_none, errW_some] <;> rfl), by repeat (first | (with_reducible first | exact HB.out | apply below_alloc | apply pw_below_drewN | apply below_drew1 | refine below_set ?_ GE103.out) | exact HB.out)⟩
                    · replace c57 := Bool.eq_false_iff.mpr c57
                      subst c57
                      have H1 : (some false) = some r := by rw [if_neg (show ¬ (false = true) by decide)] at H; exact H
                      clear H
                      have H := H1
                      clear H1
                      obtain rfl := Option.some.inj H
                      have hcz59_0 : wc.cell? ⟨gb103, 0, none⟩ = some (.int .i64 a0_0) := (blk_cell BK103.out 0).trans rfl
                      have hcz59_1 : wc.cell? ⟨gb103, 1, none⟩ = some (.int .i64 a0_1) := (blk_cell BK103.out 1).trans rfl
                      have hcz59_2 : wc.cell? ⟨gb103, 2, none⟩ = some (.int .i64 a0_2) := (blk_cell BK103.out 2).trans rfl
                      have hcz59_3 : wc.cell? ⟨gb103, 3, none⟩ = some (.int .i64 a0_3) := (blk_cell BK103.out 3).trans rfl
                      have hcz59_4 : wc.cell? ⟨gb103, 4, none⟩ = some (.int .i64 a0_4) := (blk_cell BK103.out 4).trans rfl
                      have hcz59_5 : wc.cell? ⟨gb103, 5, none⟩ = some (.int .i64 a0_5) := (blk_cell BK103.out 5).trans rfl
                      have hcz59_6 : wc.cell? ⟨gb103, 6, none⟩ = some (.int .i64 a0_6) := (blk_cell BK103.out 6).trans rfl
                      have hcz59_7 : wc.cell? ⟨gb103, 7, none⟩ = some (.int .i64 a0_7) := (blk_cell BK103.out 7).trans rfl
                      have hcz59_8 : wc.cell? ⟨gb103, 8, none⟩ = some (.int .i64 a0_8) := (blk_cell BK103.out 8).trans rfl
                      have hcz59_9 : wc.cell? ⟨gb103, 9, none⟩ = some (.int .i64 a0_9) := (blk_cell BK103.out 9).trans rfl
                      have hcz59_10 : wc.cell? ⟨gb103, 10, none⟩ = some (.int .i64 a0_10) := (blk_cell BK103.out 10).trans rfl
                      have hcz59_11 : wc.cell? ⟨gb103, 11, none⟩ = some (.int .i64 a0_11) := (blk_cell BK103.out 11).trans rfl
                      have hcz59_12 : wc.cell? ⟨gb103, 12, none⟩ = some (.int .i64 a0_12) := (blk_cell BK103.out 12).trans rfl
                      have hcz59_13 : wc.cell? ⟨gb103, 13, none⟩ = some (.int .i64 a0_13) := (blk_cell BK103.out 13).trans rfl
                      have hfz59_0 := blk_frozen BK103.out 0
                      have hfz59_1 := blk_frozen BK103.out 1
                      have hfz59_2 := blk_frozen BK103.out 2
                      have hfz59_3 := blk_frozen BK103.out 3
                      have hfz59_4 := blk_frozen BK103.out 4
                      have hfz59_5 := blk_frozen BK103.out 5
                      have hfz59_6 := blk_frozen BK103.out 6
                      have hfz59_7 := blk_frozen BK103.out 7
                      have hfz59_8 := blk_frozen BK103.out 8
                      have hfz59_9 := blk_frozen BK103.out 9
                      have hfz59_10 := blk_frozen BK103.out 10
                      have hfz59_11 := blk_frozen BK103.out 11
                      have hfz59_12 := blk_frozen BK103.out 12
                      have hfz59_13 := blk_frozen BK103.out 13
                      go_wp2_with (first | ((with_reducible refine gate_callee (f := 19) rfl ?_); refine goesL_ (some 50) rfl rfl Try.func19 (by kernel_rfl) rfl #[.int .i64 a0_9, .int .i64 1, .int .i64 8] rfl (by (try simp only [List.map_toArray, List.map_cons, List.map_nil]); first | done | rfl | (simp only [List.length_drop, List.length_take]; rfl)) ?_; (with_reducible refine (arena_within.calls a0_9 1 8 false _ A30.out).mono ?_); rintro e w' ⟨rfl, ⟨nd, rfl⟩⟩; refine ⟨_, rfl, ?_⟩))
                      go_ret
                      exact ⟨by first | rfl | (simp [errW_none, errW_some] <;> rfl) | (simp [*, errW_none, errW_some] <;> rfl), by repeat (first | (with_reducible first | exact HB.out | apply below_alloc | apply pw_below_drewN | apply below_drew1 | refine below_set ?_ GE103.out) | exact HB.out)⟩
                  · replace c56 := Bool.eq_false_iff.mpr c56
                    subst c56
                    have H1 : (some false) = some r := by rw [if_neg (show ¬ (false = true) by decide)] at H; exact H
                    clear H
                    have H := H1
                    clear H1
                    obtain rfl := Option.some.inj H
                    have hcz60_0 : wc.cell? ⟨gb103, 0, none⟩ = some (.int .i64 a0_0) := (blk_cell BK103.out 0).trans rfl
                    have hcz60_1 : wc.cell? ⟨gb103, 1, none⟩ = some (.int .i64 a0_1) := (blk_cell BK103.out 1).trans rfl
                    have hcz60_2 : wc.cell? ⟨gb103, 2, none⟩ = some (.int .i64 a0_2) := (blk_cell BK103.out 2).trans rfl
                    have hcz60_3 : wc.cell? ⟨gb103, 3, none⟩ = some (.int .i64 a0_3) := (blk_cell BK103.out 3).trans rfl
                    have hcz60_4 : wc.cell? ⟨gb103, 4, none⟩ = some (.int .i64 a0_4) := (blk_cell BK103.out 4).trans rfl
                    have hcz60_5 : wc.cell? ⟨gb103, 5, none⟩ = some (.int .i64 a0_5) := (blk_cell BK103.out 5).trans rfl
                    have hcz60_6 : wc.cell? ⟨gb103, 6, none⟩ = some (.int .i64 a0_6) := (blk_cell BK103.out 6).trans rfl
                    have hcz60_7 : wc.cell? ⟨gb103, 7, none⟩ = some (.int .i64 a0_7) := (blk_cell BK103.out 7).trans rfl
                    have hcz60_8 : wc.cell? ⟨gb103, 8, none⟩ = some (.int .i64 a0_8) := (blk_cell BK103.out 8).trans rfl
                    have hcz60_9 : wc.cell? ⟨gb103, 9, none⟩ = some (.int .i64 a0_9) := (blk_cell BK103.out 9).trans rfl
                    have hcz60_10 : wc.cell? ⟨gb103, 10, none⟩ = some (.int .i64 a0_10) := (blk_cell BK103.out 10).trans rfl
                    have hcz60_11 : wc.cell? ⟨gb103, 11, none⟩ = some (.int .i64 a0_11) := (blk_cell BK103.out 11).trans rfl
                    have hcz60_12 : wc.cell? ⟨gb103, 12, none⟩ = some (.int .i64 a0_12) := (blk_cell BK103.out 12).trans rfl
                    have hcz60_13 : wc.cell? ⟨gb103, 13, none⟩ = some (.int .i64 a0_13) := (blk_cell BK103.out 13).trans rfl
                    have hfz60_0 := blk_frozen BK103.out 0
                    have hfz60_1 := blk_frozen BK103.out 1
                    have hfz60_2 := blk_frozen BK103.out 2
                    have hfz60_3 := blk_frozen BK103.out 3
                    have hfz60_4 := blk_frozen BK103.out 4
                    have hfz60_5 := blk_frozen BK103.out 5
                    have hfz60_6 := blk_frozen BK103.out 6
                    have hfz60_7 := blk_frozen BK103.out 7
                    have hfz60_8 := blk_frozen BK103.out 8
                    have hfz60_9 := blk_frozen BK103.out 9
                    have hfz60_10 := blk_frozen BK103.out 10
                    have hfz60_11 := blk_frozen BK103.out 11
                    have hfz60_12 := blk_frozen BK103.out 12
                    have hfz60_13 := blk_frozen BK103.out 13
                    go_wp2_with (first | ((with_reducible refine gate_callee (f := 19) rfl ?_); refine goesL_ (some 50) rfl rfl Try.func19 (by kernel_rfl) rfl #[.int .i64 a0_9, .int .i64 1, .int .i64 8] rfl (by (try simp only [List.map_toArray, List.map_cons, List.map_nil]); first | done | rfl | (simp only [List.length_drop, List.length_take]; rfl)) ?_; (with_reducible refine (arena_within.calls a0_9 1 8 false _ A30.out).mono ?_); rintro e w' ⟨rfl, ⟨nd, rfl⟩⟩; refine ⟨_, rfl, ?_⟩))
                    go_ret
                    exact ⟨by first | rfl | (simp [errW_none, errW_some] <;> rfl) | (simp [*, errW_none, errW_some] <;> rfl), by repeat (first | (with_reducible first | exact HB.out | apply below_alloc | apply pw_below_drewN | apply below_drew1 | refine below_set ?_ GE103.out) | exact HB.out)⟩
                · replace c55 := Bool.eq_false_iff.mpr c55
                  subst c55
                  have H1 : (some false) = some r := by rw [if_neg (show ¬ (false = true) by decide)] at H; exact H
                  clear H
                  have H := H1
                  clear H1
                  obtain rfl := Option.some.inj H
                  have hcz61_0 : wc.cell? ⟨gb103, 0, none⟩ = some (.int .i64 a0_0) := (blk_cell BK103.out 0).trans rfl
                  have hcz61_1 : wc.cell? ⟨gb103, 1, none⟩ = some (.int .i64 a0_1) := (blk_cell BK103.out 1).trans rfl
                  have hcz61_2 : wc.cell? ⟨gb103, 2, none⟩ = some (.int .i64 a0_2) := (blk_cell BK103.out 2).trans rfl
                  have hcz61_3 : wc.cell? ⟨gb103, 3, none⟩ = some (.int .i64 a0_3) := (blk_cell BK103.out 3).trans rfl
                  have hcz61_4 : wc.cell? ⟨gb103, 4, none⟩ = some (.int .i64 a0_4) := (blk_cell BK103.out 4).trans rfl
                  have hcz61_5 : wc.cell? ⟨gb103, 5, none⟩ = some (.int .i64 a0_5) := (blk_cell BK103.out 5).trans rfl
                  have hcz61_6 : wc.cell? ⟨gb103, 6, none⟩ = some (.int .i64 a0_6) := (blk_cell BK103.out 6).trans rfl
                  have hcz61_7 : wc.cell? ⟨gb103, 7, none⟩ = some (.int .i64 a0_7) := (blk_cell BK103.out 7).trans rfl
                  have hcz61_8 : wc.cell? ⟨gb103, 8, none⟩ = some (.int .i64 a0_8) := (blk_cell BK103.out 8).trans rfl
                  have hcz61_9 : wc.cell? ⟨gb103, 9, none⟩ = some (.int .i64 a0_9) := (blk_cell BK103.out 9).trans rfl
                  have hcz61_10 : wc.cell? ⟨gb103, 10, none⟩ = some (.int .i64 a0_10) := (blk_cell BK103.out 10).trans rfl
                  have hcz61_11 : wc.cell? ⟨gb103, 11, none⟩ = some (.int .i64 a0_11) := (blk_cell BK103.out 11).trans rfl
                  have hcz61_12 : wc.cell? ⟨gb103, 12, none⟩ = some (.int .i64 a0_12) := (blk_cell BK103.out 12).trans rfl
                  have hcz61_13 : wc.cell? ⟨gb103, 13, none⟩ = some (.int .i64 a0_13) := (blk_cell BK103.out 13).trans rfl
                  have hfz61_0 := blk_frozen BK103.out 0
                  have hfz61_1 := blk_frozen BK103.out 1
                  have hfz61_2 := blk_frozen BK103.out 2
                  have hfz61_3 := blk_frozen BK103.out 3
                  have hfz61_4 := blk_frozen BK103.out 4
                  have hfz61_5 := blk_frozen BK103.out 5
                  have hfz61_6 := blk_frozen BK103.out 6
                  have hfz61_7 := blk_frozen BK103.out 7
                  have hfz61_8 := blk_frozen BK103.out 8
                  have hfz61_9 := blk_frozen BK103.out 9
                  have hfz61_10 := blk_frozen BK103.out 10
                  have hfz61_11 := blk_frozen BK103.out 11
                  have hfz61_12 := blk_frozen BK103.out 12
                  have hfz61_13 := blk_frozen BK103.out 13
                  go_wp2_with (first | ((with_reducible refine gate_callee (f := 19) rfl ?_); refine goesL_ (some 50) rfl rfl Try.func19 (by kernel_rfl) rfl #[.int .i64 a0_9, .int .i64 1, .int .i64 8] rfl (by (try simp only [List.map_toArray, List.map_cons, List.map_nil]); first | done | rfl | (simp only [List.length_drop, List.length_take]; rfl)) ?_; (with_reducible refine (arena_within.calls a0_9 1 8 false _ A30.out).mono ?_); rintro e w' ⟨rfl, ⟨nd, rfl⟩⟩; refine ⟨_, rfl, ?_⟩))
                  go_ret
                  exact ⟨by first | rfl | (simp [errW_none, errW_some] <;> rfl) | (simp [*, errW_none, errW_some] <;> rfl), by repeat (first | (with_reducible first | exact HB.out | apply below_alloc | apply pw_below_drewN | apply below_drew1 | refine below_set ?_ GE103.out) | exact HB.out)⟩

end Go.Proofs.Ytfphmkdcjbokeaa.PTunerGrids
