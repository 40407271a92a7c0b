-- Printed by the kit's print.sh, then cut by wip/gen/shake.py: what no text of this claim names is left out.
import Derived.Test.YtihjjkoddphmiaaDoorMPImageRoundx0
import Derived.Test.YtihjjkoddphmiaaDoorMRef6
namespace Go.Proofs.YtihjjkoddphmiaaDoor.PImageRound
open Go.RowKit Go.Proofs.YtihjjkoddphmiaaDoorW.PrintWords Go.Proofs.YtihjjkoddphmiaaDoorW.PrintLast Go.Proofs.YtihjjkoddphmiaaDoorW.PrintMore
attribute [local go_sem] max2_int min2_int max_two min_two max_three min_three max_four min_four   -- for this text's walks alone
set_option linter.unusedVariables false
set_option linter.unusedSimpArgs false

mutual
def middenref16_known.l0 : Nat → List Int → Int → List (S62) → List (List (List Int)) → List Int → List Int → List Int → Int → Option (Bool)
 | 0, _, _, _, _, _, _, _, _ => none
 | k + 1, x3, x4, x226000, x226001, x226002, x226003, x226004, x226005 => if x4 < (x226001.length : Int) then (middenref16_known.l1 k x3 x4 0 x226000 x226001 x226002 x226003 x226004 x226005) else (if x3.length + x226002.length < 17592186044416 then ((some (x3 ++ x226002 : List Int)).bind fun y232 => (if y232.length + x226004.length < 17592186044416 then ((some (y232 ++ x226004 : List Int)).bind fun y235 => (if y235.length + x226003.length < 17592186044416 then (if 0 ≤ (wrap64 ((x226000.length : Int) + 1)) then (if (wrap64 ((x226000.length : Int) + 1) : Int).toNat ≤ 281474976710656 then (middenref16_known.l2 k (y235 ++ x226003) (List.replicate (wrap64 ((x226000.length : Int) + 1) : Int).toNat false) 0 0 x226000 x226001 x226002 x226003 x226004 x226005) else (none)) else (none)) else (none))) else (none))) else (none))
def middenref16_known.l1 : Nat → List Int → Int → Int → List (S62) → List (List (List Int)) → List Int → List Int → List Int → Int → Option (Bool)
 | 0, _, _, _, _, _, _, _, _, _ => none
 | k + 1, x3, x4, x5, x226000, x226001, x226002, x226003, x226004, x226005 => if 0 ≤ x4 then (if x4 < (x226001.length : Int) then (if x5 < ((rd_L5 x226001 x4).length : Int) then (if 0 ≤ x5 then (if x3.length + (rd_L2 (rd_L5 x226001 x4) x5).length < 17592186044416 then (middenref16_known.l1 k (x3 ++ (rd_L2 (rd_L5 x226001 x4) x5)) x4 (wrap64 (x5 + 1)) x226000 x226001 x226002 x226003 x226004 x226005) else (none)) else (none)) else (middenref16_known.l0 k x3 (wrap64 (x4 + 1)) x226000 x226001 x226002 x226003 x226004 x226005)) else (none)) else (none)
def middenref16_known.l2 : Nat → List Int → List Bool → Int → Int → List (S62) → List (List (List Int)) → List Int → List Int → List Int → Int → Option (Bool)
 | 0, _, _, _, _, _, _, _, _, _, _ => none
 | k + 1, x3, x6, x7, x8, x226000, x226001, x226002, x226003, x226004, x226005 => if x8 < (x3.length : Int) then (if 0 ≤ x8 then (if (rd x3 x8) > 0 then (if 0 ≤ (rd x3 x8) then (if (rd x3 x8) < (x6.length : Int) then (if (rdOf false x6 (rd x3 x8) = true) then (middenref16_known.l2 k x3 x6 x7 (wrap64 (x8 + 1)) x226000 x226001 x226002 x226003 x226004 x226005) else (if 0 ≤ (wrap64 ((rd x3 x8) - 1)) then (if (wrap64 ((rd x3 x8) - 1)) < (x226000.length : Int) then (if x3.length + ((rd_T62 x226000 (wrap64 ((rd x3 x8) - 1))).f3).length < 17592186044416 then (middenref16_known.l2 k (x3 ++ ((rd_T62 x226000 (wrap64 ((rd x3 x8) - 1))).f3)) (x6.set ((rd x3 x8) : Int).toNat true) (wrap64 (x7 + 1)) (wrap64 (x8 + 1)) x226000 x226001 x226002 x226003 x226004 x226005) else (none)) else (none)) else (none))) else (none)) else (none)) else (middenref16_known.l2 k x3 x6 x7 (wrap64 (x8 + 1)) x226000 x226001 x226002 x226003 x226004 x226005)) else (none)) else (some (x7 == (x226000.length : Int)))
end
def middenref16_known.f (k : Nat) (l0_0 : List (S62)) (l0_1 : List (List (List Int))) (l0_2 : List Int) (l0_3 : List Int) (l0_4 : List Int) (a0_5 : Int) : Option (Bool) := middenref16_known.l0 k ([] : List Int) 0 l0_0 l0_1 l0_2 l0_3 l0_4 a0_5
set_option maxHeartbeats 8000000 in
set_option maxRecDepth 100000 in
theorem middenref16_known.calls (k : Nat) (A0_0 : Option Addr) (c0_0 : Nat) (l0_0 : List (S62)) (A0_1 : Option Addr) (c0_1 : Nat) (l0_1 : List (List (List Int))) (A0_2 : Option Addr) (c0_2 : Nat) (l0_2 : List Int) (A0_3 : Option Addr) (c0_3 : Nat) (l0_3 : List Int) (A0_4 : Option Addr) (c0_4 : Nat) (l0_4 : List Int) (a0_5 : Int) (r : Bool) (w : World) (hr0_0 : Kd.C k62 w A0_0 l0_0.length l0_0) (hc0_0 : l0_0.length ≤ c0_0) (hr0_1 : Kd.C (Kd.slice 24 (Kd.slice 3 (Kd.int .i64))) w A0_1 l0_1.length l0_1) (hc0_1 : l0_1.length ≤ c0_1) (hr0_2 : Kd.C (Kd.int .i64) w A0_2 l0_2.length l0_2) (hc0_2 : l0_2.length ≤ c0_2) (hr0_3 : Kd.C (Kd.int .i64) w A0_3 l0_3.length l0_3) (hc0_3 : l0_3.length ≤ c0_3) (hr0_4 : Kd.C (Kd.int .i64) w A0_4 l0_4.length l0_4) (hc0_4 : l0_4.length ≤ c0_4) (h : middenref16_known.f k l0_0 l0_1 l0_2 l0_3 l0_4 a0_5 = some r) :
  Calls Tryd.prog 33 #[.agg #[.slice A0_0 l0_0.length c0_0, .slice A0_1 l0_1.length c0_1, .slice A0_2 l0_2.length c0_2, .slice A0_3 l0_3.length c0_3, .slice A0_4 l0_4.length c0_4, .int .u64 a0_5]] w fun e w' => e = .returned (.bool r) ∧ Below w.heap.size w w' := by
 have hu27 := Tryd.underlying27
 have HR0_0 := Aside0.mk hr0_0
 have HC0_0 := Aside0.mk hc0_0
 clear hr0_0 hc0_0
 have HR0_1 := Aside0.mk hr0_1
 have HC0_1 := Aside0.mk hc0_1
 clear hr0_1 hc0_1
 have HR0_2 := Aside0.mk hr0_2
 have HC0_2 := Aside0.mk hc0_2
 clear hr0_2 hc0_2
 have HR0_3 := Aside0.mk hr0_3
 have HC0_3 := Aside0.mk hc0_3
 clear hr0_3 hc0_3
 have HR0_4 := Aside0.mk hr0_4
 have HC0_4 := Aside0.mk hc0_4
 clear hr0_4 hc0_4
 have HB := Aside0.mk (Below.refl w.heap.size w)
 have H : (middenref16_known.l0 k ([] : List Int) 0 l0_0 l0_1 l0_2 l0_3 l0_4 a0_5) = some r := h
 clear h
 have H' := Aside0.mk H
 clear H
 go_enter Tryd.func33, Tryd.ntmps33
 go_wp2_with (first | ((with_reducible refine gate_dst (N := 1) rfl ?_); refine box_event ?hg (N := 1) ?hd (cs := #[.slice A0_0 l0_0.length c0_0, .slice A0_1 l0_1.length c0_1, .slice A0_2 l0_2.length c0_2, .slice A0_3 l0_3.length c0_3, .slice A0_4 l0_4.length c0_4, .int .u64 a0_5]) (t := 27) ?hr ?_; (case hd => rfl); (case hg => rfl); (case hr => first | (go_simp; done) | (go_simp; rfl)); intro gb225 hg w2 hbox hb; have n0_ := Aside0.mk (below_step (by repeat (first | (with_reducible first | exact HB.out | apply below_alloc | apply pw_below_drewN | apply below_drew1) | exact HB.out)) hb); have n1_ := Aside0.mk (hbox); have n2_ := Aside0.mk ((by rw [hg]; exact (below_size (by repeat (first | (with_reducible first | exact HB.out | apply below_alloc | apply pw_below_drewN | apply below_drew1) | exact HB.out))) : w.heap.size ≤ gb225)); have n3_ := Aside0.mk ((by rw [hg]; exact (below_size (by repeat (first | (with_reducible first | exact HB.out | apply below_alloc | apply pw_below_drewN | apply below_drew1) | exact HB.out))) : w.heap.size ≤ gb225)); clear HB; have HB := n0_; have BK225 := n1_; have GW225 := n2_; have GE225 := n3_; clear n0_ n1_ n2_ n3_; clear hb hbox hg))
 go_loopg [3, 4] k (fun kq v3 v4 w' => ∃ (x3_1 : List Int) (x4_1 : Int), v4 = .int .i64 x4_1 ∧ Aside0 (middenref16_known.l0 kq x3_1 x4_1 l0_0 l0_1 l0_2 l0_3 l0_4 a0_5 = some r) ∧ Aside0 (kq ≤ k) ∧ Aside0 (Kd.R (Kd.int .i64) 3 w' w.heap.size (fun _ => True) v3 x3_1) ∧ Aside0 (w'.heap[gb225]? = some (.cells #[(.slice A0_0 l0_0.length c0_0), (.slice A0_1 l0_1.length c0_1), (.slice A0_2 l0_2.length c0_2), (.slice A0_3 l0_3.length c0_3), (.slice A0_4 l0_4.length c0_4), .int .u64 a0_5] 27 (0, 0))) ∧ Aside0 (Below w.heap.size w w'))
 case atStart => exact ⟨(([] : List Int)), (0), (by first | rfl | (simp; done) | (simp [*]; done)), H', ⟨Nat.le_refl _⟩, ⟨by first | exact Kd.R_nil _ _ _ _ _ | exact Kd.N_nil _ _ _ _ _ | exact Kd.V_nil _ _ _ _ _ | exact Kd.Q_nil _ _ _ _ _ | exact Kd.S_nil _ _ _ _ _⟩, ⟨by (with_reducible repeat (first | refine blk_drewN ?_ _ | refine blk_drew ?_ | refine blk_alloc ?_ _)); exact BK225.out⟩, ⟨by repeat (first | (with_reducible first | exact HB.out | apply below_alloc | apply pw_below_drewN | apply below_drew1 | refine below_set ?_ GE225.out) | exact HB.out)⟩⟩
 case round =>
  clear H'
  try clear p2
  obtain ⟨x3_1, x4_1, rfl, HA, HK1, HO_3, BK225, HB⟩ := hrel
  cases gk with
  | zero => exact absurd HA.out (by simp [middenref16_known.l0])
  | succ k1 =>
   have H := HA.out
   clear HA
   simp only [middenref16_known.l0] at H
   by_cases c3 : x4_1 < (l0_1.length : Int)
   ·rw [if_pos c3] at H
    have c3b0 : decide (x4_1 < (l0_1.length : Int)) = true := decide_eq_true c3
    clear c3
    have H' := Aside0.mk H
    clear H
    have hcz4_0 : wr.cell? ⟨gb225, 0, none⟩ = some (.slice A0_0 l0_0.length c0_0) := (blk_cell BK225.out 0).trans rfl
    have hcz4_1 : wr.cell? ⟨gb225, 1, none⟩ = some (.slice A0_1 l0_1.length c0_1) := (blk_cell BK225.out 1).trans rfl
    have hcz4_2 : wr.cell? ⟨gb225, 2, none⟩ = some (.slice A0_2 l0_2.length c0_2) := (blk_cell BK225.out 2).trans rfl
    have hcz4_3 : wr.cell? ⟨gb225, 3, none⟩ = some (.slice A0_3 l0_3.length c0_3) := (blk_cell BK225.out 3).trans rfl
    have hcz4_4 : wr.cell? ⟨gb225, 4, none⟩ = some (.slice A0_4 l0_4.length c0_4) := (blk_cell BK225.out 4).trans rfl
    have hcz4_5 : wr.cell? ⟨gb225, 5, none⟩ = some (.int .u64 a0_5) := (blk_cell BK225.out 5).trans rfl
    have hfz4_0 := blk_frozen BK225.out 0
    have hfz4_1 := blk_frozen BK225.out 1
    have hfz4_2 := blk_frozen BK225.out 2
    have hfz4_3 := blk_frozen BK225.out 3
    have hfz4_4 := blk_frozen BK225.out 4
    have hfz4_5 := blk_frozen BK225.out 5
    go_wp2
    go_loopg [3, 5] k1 (fun kq v3 v5 w' => ∃ (x3_2 : List Int) (x5_2 : Int), v5 = .int .i64 x5_2 ∧ Aside0 (middenref16_known.l1 kq x3_2 x4_1 x5_2 l0_0 l0_1 l0_2 l0_3 l0_4 a0_5 = some r) ∧ Aside0 (kq ≤ k1) ∧ Aside0 (Kd.R (Kd.int .i64) 3 w' w.heap.size (fun _ => True) v3 x3_2) ∧ Aside0 (w'.heap[gb225]? = some (.cells #[(.slice A0_0 l0_0.length c0_0), (.slice A0_1 l0_1.length c0_1), (.slice A0_2 l0_2.length c0_2), (.slice A0_3 l0_3.length c0_3), (.slice A0_4 l0_4.length c0_4), .int .u64 a0_5] 27 (0, 0))) ∧ Aside0 (Below w.heap.size w w'))
    case atStart => exact ⟨(x3_1), (0), (by first | rfl | (simp; done) | (simp [*]; done)), H', ⟨Nat.le_refl _⟩, ⟨by (with_reducible repeat (first | apply Kd.R_alloc | apply Kd.R_drewN | apply Kd.R_drew)); exact HO_3.out⟩, ⟨by (with_reducible repeat (first | refine blk_drewN ?_ _ | refine blk_drew ?_ | refine blk_alloc ?_ _)); exact BK225.out⟩, ⟨by repeat (first | (with_reducible first | exact HB.out | apply below_alloc | apply pw_below_drewN | apply below_drew1 | refine below_set ?_ GE225.out) | exact HB.out)⟩⟩
    case round =>
     clear H'
     try clear p2
     try clear c3
     try clear c3b0
     try clear hcz4_0
     try clear hcz4_1
     try clear hcz4_2
     try clear hcz4_3
     try clear hcz4_4
     try clear hcz4_5
     try clear hfz4_0
     try clear hfz4_1
     try clear hfz4_2
     try clear hfz4_3
     try clear hfz4_4
     try clear hfz4_5
     try clear p2
     obtain ⟨x3_2, x5_2, rfl, HA, HK2, HO_3, BK225, HB⟩ := hrel
     cases gk with
     | zero => exact absurd HA.out (by simp [middenref16_known.l1])
     | succ k2 =>
      have H := HA.out
      clear HA
      simp only [middenref16_known.l1] at H
      by_cases c5 : 0 ≤ x4_1
      ·rw [if_pos c5] at H
       have c5b0 : decide (0 ≤ x4_1) = true := decide_eq_true c5
       clear c5
       by_cases c6 : x4_1 < (l0_1.length : Int)
       ·rw [if_pos c6] at H
        have c6b0 : decide (x4_1 < (l0_1.length : Int)) = true := decide_eq_true c6
        clear c6
        by_cases c7 : x5_2 < ((rd_L5 l0_1 x4_1).length : Int)
        ·rw [if_pos c7] at H
         have c7b0 : decide (x5_2 < ((rd_L5 l0_1 x4_1).length : Int)) = true := decide_eq_true c7
         clear c7
         by_cases c8 : 0 ≤ x5_2
         ·rw [if_pos c8] at H
          have c8b0 : decide (0 ≤ x5_2) = true := decide_eq_true c8
          clear c8
          by_cases c9 : x3_2.length + (rd_L2 (rd_L5 l0_1 x4_1) x5_2).length < 17592186044416
          ·rw [if_pos c9] at H
           have LMc9 := Aside0.mk c9
           clear c9
           obtain ⟨y229, hy229⟩ : ∃ y_ : List Int, y_ = (x3_2 ++ (rd_L2 (rd_L5 l0_1 x4_1) x5_2)) := ⟨_, rfl⟩
           replace H : (middenref16_known.l1 k2 y229 x4_1 (wrap64 (x5_2 + 1)) l0_0 l0_1 l0_2 l0_3 l0_4 a0_5) = some r := by first | (rw [hy229]; with_reducible exact H) | (have H2_ := (Option.bind_some _ _).symm.trans H; rw [hy229]; with_reducible exact H2_) | (have H2_ := (Option.bind_some _ _).symm.trans H; with_reducible exact H2_) | with_reducible exact H | (rw [hy229]; exact H) | exact H
           have Ny229 := Aside0.mk hy229
           clear hy229
           have H' := Aside0.mk H
           clear H
           have hcz10_0 : wr.cell? ⟨gb225, 0, none⟩ = some (.slice A0_0 l0_0.length c0_0) := (blk_cell BK225.out 0).trans rfl
           have hcz10_1 : wr.cell? ⟨gb225, 1, none⟩ = some (.slice A0_1 l0_1.length c0_1) := (blk_cell BK225.out 1).trans rfl
           have hcz10_2 : wr.cell? ⟨gb225, 2, none⟩ = some (.slice A0_2 l0_2.length c0_2) := (blk_cell BK225.out 2).trans rfl
           have hcz10_3 : wr.cell? ⟨gb225, 3, none⟩ = some (.slice A0_3 l0_3.length c0_3) := (blk_cell BK225.out 3).trans rfl
           have hcz10_4 : wr.cell? ⟨gb225, 4, none⟩ = some (.slice A0_4 l0_4.length c0_4) := (blk_cell BK225.out 4).trans rfl
           have hcz10_5 : wr.cell? ⟨gb225, 5, none⟩ = some (.int .u64 a0_5) := (blk_cell BK225.out 5).trans rfl
           have hfz10_0 := blk_frozen BK225.out 0
           have hfz10_1 := blk_frozen BK225.out 1
           have hfz10_2 := blk_frozen BK225.out 2
           have hfz10_3 := blk_frozen BK225.out 3
           have hfz10_4 := blk_frozen BK225.out 4
           have hfz10_5 := blk_frozen BK225.out 5
           have p226 : 0 ≤ (x4_1 : Int) := of_decide_eq_true (by first | (with_reducible assumption) | assumption)
           have q226 : x4_1 < (l0_1.length : Int) := of_decide_eq_true (by first | (with_reducible assumption) | assumption)
           obtain ⟨ad226, A226_0, c226_0, e226, hx226_0, hl226_0, hi226_0⟩ := at_L5 HR0_1.out x4_1 p226 q226
           cases e226
           replace hx226_0 := (HB.out.cell (World.block_lt_of_cell? w _ hx226_0)).trans hx226_0
           have HR226_0 := Aside0.mk hi226_0
           have HC226_0 := Aside0.mk hl226_0
           clear hi226_0 hl226_0
           replace p226 := eq_true p226
           replace q226 := eq_true q226
           have p227 : 0 ≤ (x4_1 : Int) := of_decide_eq_true (by first | (with_reducible assumption) | assumption)
           have q227 : x4_1 < (l0_1.length : Int) := of_decide_eq_true (by first | (with_reducible assumption) | assumption)
           obtain ⟨ad227, A227_0, c227_0, e227, hx227_0, hl227_0, hi227_0⟩ := at_L5 HR0_1.out x4_1 p227 q227
           obtain rfl : ad226 = ad227 := (by injection e227)
           replace hx227_0 := (HB.out.cell (World.block_lt_of_cell? w _ hx227_0)).trans hx227_0
           have HR227_0 := Aside0.mk hi227_0
           have HC227_0 := Aside0.mk hl227_0
           clear hi227_0 hl227_0
           replace p227 := eq_true p227
           replace q227 := eq_true q227
           have ea_ := Option.some.inj (hx226_0.symm.trans hx227_0)
           injection ea_ with ea_ en_ ec_
           subst ea_
           subst ec_
           clear en_
           have p228 : 0 ≤ (x5_2 : Int) := of_decide_eq_true (by first | (with_reducible assumption) | assumption)
           have q228 : x5_2 < ((rd_L5 l0_1 x4_1).length : Int) := of_decide_eq_true (by first | (with_reducible assumption) | assumption)
           obtain ⟨ad228, A228_0, c228_0, e228, hx228_0, hl228_0, hi228_0⟩ := at_L2 HR227_0.out x5_2 p228 q228
           cases e228
           replace hx228_0 := (HB.out.cell (World.block_lt_of_cell? w _ hx228_0)).trans hx228_0
           have HR228_0 := Aside0.mk hi228_0
           have HC228_0 := Aside0.mk hl228_0
           clear hi228_0 hl228_0
           replace p228 := eq_true p228
           replace q228 := eq_true q228
           go_wp2_with (first | ((with_reducible refine gate_builtin (b := .append) (xs := #[.tmp 27, .tmp 35]) rfl ?_); at_builtin; refine Kd.R_append_rows (Kd.int .i64) (w0 := w) w.heap.size rfl (.tmp 27) (.tmp 35) 24 3 (.int .i64 0) 8 rfl Tryd.underlying24 info3 rfl (by decide) (by omega) u3 x3_2 (rd_L2 (rd_L5 l0_1 x4_1) x5_2) _ _ _ (fun _ => True) (fun _ => False) rfl rfl ?aO ?aR (fun _ _ h => h) (fun _ h => h.elim) ?aF ?aB ?aS ?aL ?_; (case aR => repeat (first | exact (Kd.C_below HR228_0.out HB.out) | (with_reducible refine Kd.C_alloc ?_ _) | (with_reducible refine Kd.C_drewN ?_ _) | (with_reducible refine Kd.C_drew ?_))); (case aB => exact (by repeat (first | (with_reducible first | exact HB.out | apply below_alloc | apply pw_below_drewN | apply below_drew1 | refine below_set ?_ GE225.out) | exact HB.out))); (case aF => exact (fun _ _ => trivial)); (case aO => exact (by (with_reducible repeat (first | apply Kd.R_alloc | apply Kd.R_drewN | apply Kd.R_drew)); exact HO_3.out)); (case aS => exact (below_size (by repeat (first | (with_reducible first | exact HB.out | apply below_alloc | apply pw_below_drewN | apply below_drew1 | refine below_set ?_ GE225.out) | exact HB.out)))); (case aL => have := LMc9.out; omega); intro v230 w11 ho hb hg hat; rw [← Ny229.out] at ho; have n0_ := Aside0.mk (blk_grown (g := gb225) (o := .cells #[.slice A0_0 l0_0.length c0_0, .slice (some ad226) l0_1.length c0_1, .slice A0_2 l0_2.length c0_2, .slice A0_3 l0_3.length c0_3, .slice A0_4 l0_4.length c0_4, .int .u64 a0_5] 27 (0, 0)) (by (with_reducible repeat (first | refine blk_drewN ?_ _ | refine blk_drew ?_ | refine blk_alloc ?_ _)); exact BK225.out) hg (Kd.R_ne HO_3.out BK225.out (by decide))); have n1_ := Aside0.mk (hb); have n2_ := Aside0.mk (ho); clear BK225; clear HB; clear HO_3; have BK225 := n0_; have HB := n1_; have HO231 := n2_; clear n0_ n1_ n2_; clear ho hb hg hat))
           go_roundg k2
           case measure => have := HK1.out; have := HK2.out; omega
           case rel => exact ⟨(y229), (wrap64 (x5_2 + 1)), (by first | rfl | (simp; done) | (simp [*]; done)), H', ⟨by have := HK1.out; have := HK2.out; omega⟩, ⟨by (with_reducible repeat (first | apply Kd.R_alloc | apply Kd.R_drewN | apply Kd.R_drew)); exact HO231.out⟩, ⟨by (with_reducible repeat (first | refine blk_drewN ?_ _ | refine blk_drew ?_ | refine blk_alloc ?_ _)); exact BK225.out⟩, ⟨by repeat (first | (with_reducible first | exact HB.out | apply below_alloc | apply pw_below_drewN | apply below_drew1 | refine below_set ?_ GE225.out) | exact HB.out)⟩⟩
          ·rw [if_neg c9] at H
           exact absurd H (by simp)
         ·rw [if_neg c8] at H
          exact absurd H (by simp)
        ·rw [if_neg c7] at H
         have c7b0 : decide (x5_2 < ((rd_L5 l0_1 x4_1).length : Int)) = false := decide_eq_false c7
         clear c7
         have H' := Aside0.mk H
         clear H
         have hcz12_0 : wr.cell? ⟨gb225, 0, none⟩ = some (.slice A0_0 l0_0.length c0_0) := (blk_cell BK225.out 0).trans rfl
         have hcz12_1 : wr.cell? ⟨gb225, 1, none⟩ = some (.slice A0_1 l0_1.length c0_1) := (blk_cell BK225.out 1).trans rfl
         have hcz12_2 : wr.cell? ⟨gb225, 2, none⟩ = some (.slice A0_2 l0_2.length c0_2) := (blk_cell BK225.out 2).trans rfl
         have hcz12_3 : wr.cell? ⟨gb225, 3, none⟩ = some (.slice A0_3 l0_3.length c0_3) := (blk_cell BK225.out 3).trans rfl
         have hcz12_4 : wr.cell? ⟨gb225, 4, none⟩ = some (.slice A0_4 l0_4.length c0_4) := (blk_cell BK225.out 4).trans rfl
         have hcz12_5 : wr.cell? ⟨gb225, 5, none⟩ = some (.int .u64 a0_5) := (blk_cell BK225.out 5).trans rfl
         have hfz12_0 := blk_frozen BK225.out 0
         have hfz12_1 := blk_frozen BK225.out 1
         have hfz12_2 := blk_frozen BK225.out 2
         have hfz12_3 := blk_frozen BK225.out 3
         have hfz12_4 := blk_frozen BK225.out 4
         have hfz12_5 := blk_frozen BK225.out 5
         have p226 : 0 ≤ (x4_1 : Int) := of_decide_eq_true (by first | (with_reducible assumption) | assumption)
         have q226 : x4_1 < (l0_1.length : Int) := of_decide_eq_true (by first | (with_reducible assumption) | assumption)
         obtain ⟨ad226, A226_0, c226_0, e226, hx226_0, hl226_0, hi226_0⟩ := at_L5 HR0_1.out x4_1 p226 q226
         cases e226
         replace hx226_0 := (HB.out.cell (World.block_lt_of_cell? w _ hx226_0)).trans hx226_0
         have HR226_0 := Aside0.mk hi226_0
         have HC226_0 := Aside0.mk hl226_0
         clear hi226_0 hl226_0
         replace p226 := eq_true p226
         replace q226 := eq_true q226
         go_wp2
         go_roundg k2
         case measure => have := HK1.out; have := HK2.out; omega
         case rel => exact ⟨(x3_2), (wrap64 (x4_1 + 1)), (by first | rfl | (simp; done) | (simp [*]; done)), H', ⟨by have := HK1.out; have := HK2.out; omega⟩, ⟨by (with_reducible repeat (first | apply Kd.R_alloc | apply Kd.R_drewN | apply Kd.R_drew)); exact HO_3.out⟩, ⟨by (with_reducible repeat (first | refine blk_drewN ?_ _ | refine blk_drew ?_ | refine blk_alloc ?_ _)); exact BK225.out⟩, ⟨by repeat (first | (with_reducible first | exact HB.out | apply below_alloc | apply pw_below_drewN | apply below_drew1 | refine below_set ?_ GE225.out) | exact HB.out)⟩⟩
       ·rw [if_neg c6] at H
        exact absurd H (by simp)
      ·rw [if_neg c5] at H
       exact absurd H (by simp)
   ·rw [if_neg c3] at H
    have c3b0 : decide (x4_1 < (l0_1.length : Int)) = false := decide_eq_false c3
    clear c3
    by_cases c13 : x3_1.length + l0_2.length < 17592186044416
    ·rw [if_pos c13] at H
     have LMc13 := Aside0.mk c13
     clear c13
     obtain ⟨y232, hy232⟩ : ∃ y_ : List Int, y_ = (x3_1 ++ l0_2) := ⟨_, rfl⟩
     replace H : (if y232.length + l0_4.length < 17592186044416 then ((some (y232 ++ l0_4 : List Int)).bind fun y235 => (if y235.length + l0_3.length < 17592186044416 then (if 0 ≤ (wrap64 ((l0_0.length : Int) + 1)) then (if (wrap64 ((l0_0.length : Int) + 1) : Int).toNat ≤ 281474976710656 then (middenref16_known.l2 k1 (y235 ++ l0_3) (List.replicate (wrap64 ((l0_0.length : Int) + 1) : Int).toNat false) 0 0 l0_0 l0_1 l0_2 l0_3 l0_4 a0_5) else (none)) else (none)) else (none))) else (none)) = some r := by first | (rw [hy232]; with_reducible exact H) | (have H2_ := (Option.bind_some _ _).symm.trans H; rw [hy232]; with_reducible exact H2_) | (have H2_ := (Option.bind_some _ _).symm.trans H; with_reducible exact H2_) | with_reducible exact H | (rw [hy232]; exact H) | exact H
     have Ny232 := Aside0.mk hy232
     clear hy232
     by_cases c14 : y232.length + l0_4.length < 17592186044416
     ·rw [if_pos c14] at H
      have LMc14 := Aside0.mk c14
      clear c14
      obtain ⟨y235, hy235⟩ : ∃ y_ : List Int, y_ = (y232 ++ l0_4) := ⟨_, rfl⟩
      replace H : (if y235.length + l0_3.length < 17592186044416 then (if 0 ≤ (wrap64 ((l0_0.length : Int) + 1)) then (if (wrap64 ((l0_0.length : Int) + 1) : Int).toNat ≤ 281474976710656 then (middenref16_known.l2 k1 (y235 ++ l0_3) (List.replicate (wrap64 ((l0_0.length : Int) + 1) : Int).toNat false) 0 0 l0_0 l0_1 l0_2 l0_3 l0_4 a0_5) else (none)) else (none)) else (none)) = some r := by first | (rw [hy235]; with_reducible exact H) | (have H2_ := (Option.bind_some _ _).symm.trans H; rw [hy235]; with_reducible exact H2_) | (have H2_ := (Option.bind_some _ _).symm.trans H; with_reducible exact H2_) | with_reducible exact H | (rw [hy235]; exact H) | exact H
      have Ny235 := Aside0.mk hy235
      clear hy235
      by_cases c15 : y235.length + l0_3.length < 17592186044416
      ·rw [if_pos c15] at H
       have LMc15 := Aside0.mk c15
       clear c15
       obtain ⟨y238, hy238⟩ : ∃ y_ : List Int, y_ = (y235 ++ l0_3) := ⟨_, rfl⟩
       replace H : (if 0 ≤ (wrap64 ((l0_0.length : Int) + 1)) then (if (wrap64 ((l0_0.length : Int) + 1) : Int).toNat ≤ 281474976710656 then (middenref16_known.l2 k1 y238 (List.replicate (wrap64 ((l0_0.length : Int) + 1) : Int).toNat false) 0 0 l0_0 l0_1 l0_2 l0_3 l0_4 a0_5) else (none)) else (none)) = some r := by first | (rw [hy238]; with_reducible exact H) | (have H2_ := (Option.bind_some _ _).symm.trans H; rw [hy238]; with_reducible exact H2_) | (have H2_ := (Option.bind_some _ _).symm.trans H; with_reducible exact H2_) | with_reducible exact H | (rw [hy238]; exact H) | exact H
       have Ny238 := Aside0.mk hy238
       clear hy238
       obtain ⟨ji16, hji16⟩ : ∃ j_ : Int, (wrap64 ((l0_0.length : Int) + 1)) = j_ := ⟨_, rfl⟩
       replace H : (if 0 ≤ (ji16) then (if (ji16 : Int).toNat ≤ 281474976710656 then (middenref16_known.l2 k1 y238 (List.replicate (ji16 : Int).toNat false) 0 0 l0_0 l0_1 l0_2 l0_3 l0_4 a0_5) else (none)) else (none)) = some r := by first | (rw [hji16] at H; exact H) | (simp only [hji16] at H ⊢; exact H)
       have hji16w : (IntKind.i64.wrap ((l0_0.length : Int) + 1)) = ji16 := (i64_w _).trans hji16
       by_cases c17 : 0 ≤ (ji16)
       ·rw [if_pos c17] at H
        have c17b0 := eq_true c17
        have c17b1 : decide (0 ≤ (ji16)) = true := decide_eq_true c17
        clear c17
        by_cases c18 : (ji16 : Int).toNat ≤ 281474976710656
        ·rw [if_pos c18] at H
         have c18b0 := eq_true c18
         have c18b1 : decide ((ji16 : Int).toNat ≤ 281474976710656) = true := decide_eq_true c18
         clear c18
         obtain ⟨y241, hy241⟩ : ∃ y_ : List Bool, y_ = (List.replicate (ji16 : Int).toNat false) := ⟨_, rfl⟩
         replace H : (middenref16_known.l2 k1 y238 y241 0 0 l0_0 l0_1 l0_2 l0_3 l0_4 a0_5) = some r := by first | (rw [hy241]; with_reducible exact H) | (have H2_ := (Option.bind_some _ _).symm.trans H; rw [hy241]; with_reducible exact H2_) | (have H2_ := (Option.bind_some _ _).symm.trans H; with_reducible exact H2_) | with_reducible exact H | (rw [hy241]; exact H) | exact H
         have Ny241 := Aside0.mk hy241
         clear hy241
         have H' := Aside0.mk H
         clear H
         have hcz19_0 : wr.cell? ⟨gb225, 0, none⟩ = some (.slice A0_0 l0_0.length c0_0) := (blk_cell BK225.out 0).trans rfl
         have hcz19_1 : wr.cell? ⟨gb225, 1, none⟩ = some (.slice A0_1 l0_1.length c0_1) := (blk_cell BK225.out 1).trans rfl
         have hcz19_2 : wr.cell? ⟨gb225, 2, none⟩ = some (.slice A0_2 l0_2.length c0_2) := (blk_cell BK225.out 2).trans rfl
         have hcz19_3 : wr.cell? ⟨gb225, 3, none⟩ = some (.slice A0_3 l0_3.length c0_3) := (blk_cell BK225.out 3).trans rfl
         have hcz19_4 : wr.cell? ⟨gb225, 4, none⟩ = some (.slice A0_4 l0_4.length c0_4) := (blk_cell BK225.out 4).trans rfl
         have hcz19_5 : wr.cell? ⟨gb225, 5, none⟩ = some (.int .u64 a0_5) := (blk_cell BK225.out 5).trans rfl
         have hfz19_0 := blk_frozen BK225.out 0
         have hfz19_1 := blk_frozen BK225.out 1
         have hfz19_2 := blk_frozen BK225.out 2
         have hfz19_3 := blk_frozen BK225.out 3
         have hfz19_4 := blk_frozen BK225.out 4
         have hfz19_5 := blk_frozen BK225.out 5
         go_wp2_with (first | ((with_reducible refine gate_builtin (b := .append) (xs := #[.tmp 37, .tmp 39]) rfl ?_); at_builtin; refine Kd.R_append_rows (Kd.int .i64) (w0 := w) w.heap.size rfl (.tmp 37) (.tmp 39) 24 3 (.int .i64 0) 8 rfl Tryd.underlying24 info3 rfl (by decide) (by omega) u3 x3_1 l0_2 _ _ _ (fun _ => True) (fun _ => False) rfl rfl ?aO ?aR (fun _ _ h => h) (fun _ h => h.elim) ?aF ?aB ?aS ?aL ?_; (case aR => repeat (first | exact (Kd.C_below HR0_2.out HB.out) | (with_reducible refine Kd.C_alloc ?_ _) | (with_reducible refine Kd.C_drewN ?_ _) | (with_reducible refine Kd.C_drew ?_))); (case aB => exact (by repeat (first | (with_reducible first | exact HB.out | apply below_alloc | apply pw_below_drewN | apply below_drew1 | refine below_set ?_ GE225.out) | exact HB.out))); (case aF => exact (fun _ _ => trivial)); (case aO => exact (by (with_reducible repeat (first | apply Kd.R_alloc | apply Kd.R_drewN | apply Kd.R_drew)); exact HO_3.out)); (case aS => exact (below_size (by repeat (first | (with_reducible first | exact HB.out | apply below_alloc | apply pw_below_drewN | apply below_drew1 | refine below_set ?_ GE225.out) | exact HB.out)))); (case aL => have := LMc13.out; omega); intro v233 w20 ho hb hg hat; rw [← Ny232.out] at ho; have n0_ := Aside0.mk (blk_grown (g := gb225) (o := .cells #[.slice A0_0 l0_0.length c0_0, .slice A0_1 l0_1.length c0_1, .slice A0_2 l0_2.length c0_2, .slice A0_3 l0_3.length c0_3, .slice A0_4 l0_4.length c0_4, .int .u64 a0_5] 27 (0, 0)) (by (with_reducible repeat (first | refine blk_drewN ?_ _ | refine blk_drew ?_ | refine blk_alloc ?_ _)); exact BK225.out) hg (Kd.R_ne HO_3.out BK225.out (by decide))); have n1_ := Aside0.mk (hb); have n2_ := Aside0.mk (ho); clear BK225; clear HB; clear HO_3; have BK225 := n0_; have HB := n1_; have HO234 := n2_; clear n0_ n1_ n2_; clear ho hb hg hat; have hcz21_0 : w20.cell? ⟨gb225, 0, none⟩ = some (.slice A0_0 l0_0.length c0_0) := (blk_cell BK225.out 0).trans rfl; have hcz21_1 : w20.cell? ⟨gb225, 1, none⟩ = some (.slice A0_1 l0_1.length c0_1) := (blk_cell BK225.out 1).trans rfl; have hcz21_2 : w20.cell? ⟨gb225, 2, none⟩ = some (.slice A0_2 l0_2.length c0_2) := (blk_cell BK225.out 2).trans rfl; have hcz21_3 : w20.cell? ⟨gb225, 3, none⟩ = some (.slice A0_3 l0_3.length c0_3) := (blk_cell BK225.out 3).trans rfl; have hcz21_4 : w20.cell? ⟨gb225, 4, none⟩ = some (.slice A0_4 l0_4.length c0_4) := (blk_cell BK225.out 4).trans rfl; have hcz21_5 : w20.cell? ⟨gb225, 5, none⟩ = some (.int .u64 a0_5) := (blk_cell BK225.out 5).trans rfl; have hfz21_0 := blk_frozen BK225.out 0; have hfz21_1 := blk_frozen BK225.out 1; have hfz21_2 := blk_frozen BK225.out 2; have hfz21_3 := blk_frozen BK225.out 3; have hfz21_4 := blk_frozen BK225.out 4; have hfz21_5 := blk_frozen BK225.out 5) | ((with_reducible refine gate_builtin (b := .append) (xs := #[.tmp 41, .tmp 43]) rfl ?_); at_builtin; refine Kd.R_append_rows (Kd.int .i64) (w0 := w) w.heap.size rfl (.tmp 41) (.tmp 43) 24 3 (.int .i64 0) 8 rfl Tryd.underlying24 info3 rfl (by decide) (by omega) v233 y232 l0_4 _ _ _ (fun _ => True) (fun _ => False) rfl rfl ?aO ?aR (fun _ _ h => h) (fun _ h => h.elim) ?aF ?aB ?aS ?aL ?_; (case aR => repeat (first | exact (Kd.C_below HR0_4.out HB.out) | (with_reducible refine Kd.C_alloc ?_ _) | (with_reducible refine Kd.C_drewN ?_ _) | (with_reducible refine Kd.C_drew ?_))); (case aB => exact (by repeat (first | (with_reducible first | exact HB.out | apply below_alloc | apply pw_below_drewN | apply below_drew1 | refine below_set ?_ GE225.out) | exact HB.out))); (case aF => exact (fun _ _ => trivial)); (case aO => exact (by (with_reducible repeat (first | apply Kd.R_alloc | apply Kd.R_drewN | apply Kd.R_drew)); exact HO234.out)); (case aS => exact (below_size (by repeat (first | (with_reducible first | exact HB.out | apply below_alloc | apply pw_below_drewN | apply below_drew1 | refine below_set ?_ GE225.out) | exact HB.out)))); (case aL => have := LMc14.out; omega); intro v236 w22 ho hb hg hat; rw [← Ny235.out] at ho; have n0_ := Aside0.mk (blk_grown (g := gb225) (o := .cells #[.slice A0_0 l0_0.length c0_0, .slice A0_1 l0_1.length c0_1, .slice A0_2 l0_2.length c0_2, .slice A0_3 l0_3.length c0_3, .slice A0_4 l0_4.length c0_4, .int .u64 a0_5] 27 (0, 0)) (by (with_reducible repeat (first | refine blk_drewN ?_ _ | refine blk_drew ?_ | refine blk_alloc ?_ _)); exact BK225.out) hg (Kd.R_ne HO234.out BK225.out (by decide))); have n1_ := Aside0.mk (hb); have n2_ := Aside0.mk (ho); clear BK225; clear HB; clear HO234; have BK225 := n0_; have HB := n1_; have HO237 := n2_; clear n0_ n1_ n2_; clear ho hb hg hat; have hcz23_0 : w22.cell? ⟨gb225, 0, none⟩ = some (.slice A0_0 l0_0.length c0_0) := (blk_cell BK225.out 0).trans rfl; have hcz23_1 : w22.cell? ⟨gb225, 1, none⟩ = some (.slice A0_1 l0_1.length c0_1) := (blk_cell BK225.out 1).trans rfl; have hcz23_2 : w22.cell? ⟨gb225, 2, none⟩ = some (.slice A0_2 l0_2.length c0_2) := (blk_cell BK225.out 2).trans rfl; have hcz23_3 : w22.cell? ⟨gb225, 3, none⟩ = some (.slice A0_3 l0_3.length c0_3) := (blk_cell BK225.out 3).trans rfl; have hcz23_4 : w22.cell? ⟨gb225, 4, none⟩ = some (.slice A0_4 l0_4.length c0_4) := (blk_cell BK225.out 4).trans rfl; have hcz23_5 : w22.cell? ⟨gb225, 5, none⟩ = some (.int .u64 a0_5) := (blk_cell BK225.out 5).trans rfl; have hfz23_0 := blk_frozen BK225.out 0; have hfz23_1 := blk_frozen BK225.out 1; have hfz23_2 := blk_frozen BK225.out 2; have hfz23_3 := blk_frozen BK225.out 3; have hfz23_4 := blk_frozen BK225.out 4; have hfz23_5 := blk_frozen BK225.out 5) | ((with_reducible refine gate_builtin (b := .append) (xs := #[.tmp 45, .tmp 47]) rfl ?_); at_builtin; refine Kd.R_append_rows (Kd.int .i64) (w0 := w) w.heap.size rfl (.tmp 45) (.tmp 47) 24 3 (.int .i64 0) 8 rfl Tryd.underlying24 info3 rfl (by decide) (by omega) v236 y235 l0_3 _ _ _ (fun _ => True) (fun _ => False) rfl rfl ?aO ?aR (fun _ _ h => h) (fun _ h => h.elim) ?aF ?aB ?aS ?aL ?_; (case aR => repeat (first | exact (Kd.C_below HR0_3.out HB.out) | (with_reducible refine Kd.C_alloc ?_ _) | (with_reducible refine Kd.C_drewN ?_ _) | (with_reducible refine Kd.C_drew ?_))); (case aB => exact (by repeat (first | (with_reducible first | exact HB.out | apply below_alloc | apply pw_below_drewN | apply below_drew1 | refine below_set ?_ GE225.out) | exact HB.out))); (case aF => exact (fun _ _ => trivial)); (case aO => exact (by (with_reducible repeat (first | apply Kd.R_alloc | apply Kd.R_drewN | apply Kd.R_drew)); exact HO237.out)); (case aS => exact (below_size (by repeat (first | (with_reducible first | exact HB.out | apply below_alloc | apply pw_below_drewN | apply below_drew1 | refine below_set ?_ GE225.out) | exact HB.out)))); (case aL => have := LMc15.out; omega); intro v239 w24 ho hb hg hat; rw [← Ny238.out] at ho; have n0_ := Aside0.mk (blk_grown (g := gb225) (o := .cells #[.slice A0_0 l0_0.length c0_0, .slice A0_1 l0_1.length c0_1, .slice A0_2 l0_2.length c0_2, .slice A0_3 l0_3.length c0_3, .slice A0_4 l0_4.length c0_4, .int .u64 a0_5] 27 (0, 0)) (by (with_reducible repeat (first | refine blk_drewN ?_ _ | refine blk_drew ?_ | refine blk_alloc ?_ _)); exact BK225.out) hg (Kd.R_ne HO237.out BK225.out (by decide))); have n1_ := Aside0.mk (hb); have n2_ := Aside0.mk (ho); clear BK225; clear HB; clear HO237; have BK225 := n0_; have HB := n1_; have HO240 := n2_; clear n0_ n1_ n2_; clear ho hb hg hat; have hcz25_0 : w24.cell? ⟨gb225, 0, none⟩ = some (.slice A0_0 l0_0.length c0_0) := (blk_cell BK225.out 0).trans rfl; have hcz25_1 : w24.cell? ⟨gb225, 1, none⟩ = some (.slice A0_1 l0_1.length c0_1) := (blk_cell BK225.out 1).trans rfl; have hcz25_2 : w24.cell? ⟨gb225, 2, none⟩ = some (.slice A0_2 l0_2.length c0_2) := (blk_cell BK225.out 2).trans rfl; have hcz25_3 : w24.cell? ⟨gb225, 3, none⟩ = some (.slice A0_3 l0_3.length c0_3) := (blk_cell BK225.out 3).trans rfl; have hcz25_4 : w24.cell? ⟨gb225, 4, none⟩ = some (.slice A0_4 l0_4.length c0_4) := (blk_cell BK225.out 4).trans rfl; have hcz25_5 : w24.cell? ⟨gb225, 5, none⟩ = some (.int .u64 a0_5) := (blk_cell BK225.out 5).trans rfl; have hfz25_0 := blk_frozen BK225.out 0; have hfz25_1 := blk_frozen BK225.out 1; have hfz25_2 := blk_frozen BK225.out 2; have hfz25_3 := blk_frozen BK225.out 3; have hfz25_4 := blk_frozen BK225.out 4; have hfz25_5 := blk_frozen BK225.out 5) | ((with_reducible refine gate_dst (N := 53) rfl ?_); refine Kd.R_make Kd.bool _ 4 rfl (N := 53) rfl 101 _ _ rfl ji16 rfl rfl Tryd.underlying101 (.bool false) 1 info4 rfl (by decide) (by omega) false (ok := fun _ => True) (okp := fun _ => True) rfl (fun _ hk => hk) trivial (of_decide_eq_true (by first | (with_reducible assumption) | assumption)) (Nat.le_trans (Nat.mul_le_mul_right _ (of_decide_eq_true (by first | (with_reducible assumption) | assumption) : ji16.toNat ≤ 281474976710656)) (by omega)) (Below.refl _ _) (Nat.le_refl _) ?_; intro v242 w26 ho27 hb hg_ hnew_; clear hg_ hnew_; (first | rw [← Ny241.out] at ho27 | (simp only [Int.reduceToNat] at ho27; rw [← Ny241.out] at ho27)); have n0_ := Aside0.mk (Kd.R_below (by (with_reducible repeat (first | apply Kd.R_alloc | apply Kd.R_drewN | apply Kd.R_drew)); exact HO240.out) hb); have n1_ := Aside0.mk (Kd.R_lower ho27 (below_size (by repeat (first | (with_reducible first | exact HB.out | apply below_alloc | apply pw_below_drewN | apply below_drew1 | refine below_set ?_ GE225.out) | exact HB.out)))); have n2_ := Aside0.mk (blk_below (g := gb225) (o := .cells #[.slice A0_0 l0_0.length c0_0, .slice A0_1 l0_1.length c0_1, .slice A0_2 l0_2.length c0_2, .slice A0_3 l0_3.length c0_3, .slice A0_4 l0_4.length c0_4, .int .u64 a0_5] 27 (0, 0)) (by (with_reducible repeat (first | refine blk_drewN ?_ _ | refine blk_drew ?_ | refine blk_alloc ?_ _)); exact BK225.out) hb); have n3_ := Aside0.mk (below_step (by repeat (first | (with_reducible first | exact HB.out | apply below_alloc | apply pw_below_drewN | apply below_drew1 | refine below_set ?_ GE225.out) | exact HB.out)) hb); clear HO240; clear BK225; clear HB; have HO240 := n0_; have HO243 := n1_; have BK225 := n2_; have HB := n3_; clear n0_ n1_ n2_ n3_; clear hb ho27))
         go_loopg [3, 7, 8] k1 (fun kq v3 v7 v8 w' => ∃ (x3_2 : List Int) (x6_2 : List Bool) (x7_2 : Int) (x8_2 : Int), v7 = .int .i64 x7_2 ∧ v8 = .int .i64 x8_2 ∧ Aside0 (middenref16_known.l2 kq x3_2 x6_2 x7_2 x8_2 l0_0 l0_1 l0_2 l0_3 l0_4 a0_5 = some r) ∧ Aside0 (kq ≤ k1) ∧ Aside0 (Kd.R (Kd.int .i64) 3 w' w.heap.size (fun _ => True) v3 x3_2) ∧ Aside0 (Kd.R Kd.bool 4 w' w.heap.size (fun _ => True) v242 x6_2) ∧ Aside0 (w'.heap[gb225]? = some (.cells #[(.slice A0_0 l0_0.length c0_0), (.slice A0_1 l0_1.length c0_1), (.slice A0_2 l0_2.length c0_2), (.slice A0_3 l0_3.length c0_3), (.slice A0_4 l0_4.length c0_4), .int .u64 a0_5] 27 (0, 0))) ∧ Aside0 (Below w.heap.size w w'))
         case atStart => exact ⟨(y238), (y241), (0), (0), (by first | rfl | (simp; done) | (simp [*]; done)), (by first | rfl | (simp; done) | (simp [*]; done)), H', ⟨Nat.le_refl _⟩, ⟨by (with_reducible repeat (first | apply Kd.R_alloc | apply Kd.R_drewN | apply Kd.R_drew)); exact HO240.out⟩, ⟨by (with_reducible repeat (first | apply Kd.R_alloc | apply Kd.R_drewN | apply Kd.R_drew)); exact HO243.out⟩, ⟨by (with_reducible repeat (first | refine blk_drewN ?_ _ | refine blk_drew ?_ | refine blk_alloc ?_ _)); exact BK225.out⟩, ⟨by repeat (first | (with_reducible first | exact HB.out | apply below_alloc | apply pw_below_drewN | apply below_drew1 | refine below_set ?_ GE225.out) | exact HB.out)⟩⟩
         case round =>
          clear H'
          try clear c1
          try clear c2
          try clear p2
          try clear q2
          try clear hx2
          try clear c3
          try clear c3b0
          try clear c5
          try clear c5b0
          try clear c6
          try clear c6b0
          try clear p6
          try clear c7
          try clear c7b0
          try clear c8
          try clear c8b0
          try clear c9
          try clear c13
          try clear c14
          try clear c15
          try clear c17
          try clear c17b0
          try clear c17b1
          try clear c18
          try clear c18b0
          try clear c18b1
          try clear c22
          try clear p22
          try clear q22
          try clear hx22
          try clear hcz10_0
          try clear hcz10_1
          try clear hcz10_2
          try clear hcz10_3
          try clear hcz10_4
          try clear hcz10_5
          try clear hcz12_0
          try clear hcz12_1
          try clear hcz12_2
          try clear hcz12_3
          try clear hcz12_4
          try clear hcz12_5
          try clear hcz19_0
          try clear hcz19_1
          try clear hcz19_2
          try clear hcz19_3
          try clear hcz19_4
          try clear hcz19_5
          try clear hcz21_0
          try clear hcz21_1
          try clear hcz21_2
          try clear hcz21_3
          try clear hcz21_4
          try clear hcz21_5
          try clear hcz23_0
          try clear hcz23_1
          try clear hcz23_2
          try clear hcz23_3
          try clear hcz23_4
          try clear hcz23_5
          try clear hcz25_0
          try clear hcz25_1
          try clear hcz25_2
          try clear hcz25_3
          try clear hcz25_4
          try clear hcz25_5
          try clear hcz4_0
          try clear hcz4_1
          try clear hcz4_2
          try clear hcz4_3
          try clear hcz4_4
          try clear hcz4_5
          try clear hfz10_0
          try clear hfz10_1
          try clear hfz10_2
          try clear hfz10_3
          try clear hfz10_4
          try clear hfz10_5
          try clear hfz12_0
          try clear hfz12_1
          try clear hfz12_2
          try clear hfz12_3
          try clear hfz12_4
          try clear hfz12_5
          try clear hfz19_0
          try clear hfz19_1
          try clear hfz19_2
          try clear hfz19_3
          try clear hfz19_4
          try clear hfz19_5
          try clear hfz21_0
          try clear hfz21_1
          try clear hfz21_2
          try clear hfz21_3
          try clear hfz21_4
          try clear hfz21_5
          try clear hfz23_0
          try clear hfz23_1
          try clear hfz23_2
          try clear hfz23_3
          try clear hfz23_4
          try clear hfz23_5
          try clear hfz25_0
          try clear hfz25_1
          try clear hfz25_2
          try clear hfz25_3
          try clear hfz25_4
          try clear hfz25_5
          try clear hfz4_0
          try clear hfz4_1
          try clear hfz4_2
          try clear hfz4_3
          try clear hfz4_4
          try clear hfz4_5
          try clear hx226_0
          try clear hx227_0
          try clear hx228_0
          try clear p2
          try clear p226
          try clear p227
          try clear p228
          try clear q226
          try clear q227
          try clear q228
          obtain ⟨x3_2, x6_2, x7_2, x8_2, rfl, rfl, HA, HK2, HO_3, HO_6, BK225, HB⟩ := hrel
          cases gk with
          | zero => exact absurd HA.out (by simp [middenref16_known.l2])
          | succ k2 =>
           have H := HA.out
           clear HA
           simp only [middenref16_known.l2] at H
           by_cases c28 : x8_2 < (x3_2.length : Int)
           ·rw [if_pos c28] at H
            have c28b0 : decide (x8_2 < (x3_2.length : Int)) = true := decide_eq_true c28
            clear c28
            by_cases c29 : 0 ≤ x8_2
            ·rw [if_pos c29] at H
             have c29b0 : decide (0 ≤ x8_2) = true := decide_eq_true c29
             clear c29
             by_cases c30 : (rd x3_2 x8_2) > 0
             ·rw [if_pos c30] at H
              have c30b0 : decide (0 < (rd x3_2 x8_2)) = true := decide_eq_true c30
              clear c30
              by_cases c31 : 0 ≤ (rd x3_2 x8_2)
              ·rw [if_pos c31] at H
               have c31b0 : decide (0 ≤ (rd x3_2 x8_2)) = true := decide_eq_true c31
               clear c31
               by_cases c32 : (rd x3_2 x8_2) < (x6_2.length : Int)
               ·rw [if_pos c32] at H
                have c32b0 : decide ((rd x3_2 x8_2) < (x6_2.length : Int)) = true := decide_eq_true c32
                clear c32
                obtain ⟨bq33, hbq33⟩ : ∃ b_ : Bool, b_ = (rdOf false x6_2 (rd x3_2 x8_2)) := ⟨_, rfl⟩
                replace H : (if (bq33 = true) then (middenref16_known.l2 k2 x3_2 x6_2 x7_2 (wrap64 (x8_2 + 1)) l0_0 l0_1 l0_2 l0_3 l0_4 a0_5) else (if 0 ≤ (wrap64 ((rd x3_2 x8_2) - 1)) then (if (wrap64 ((rd x3_2 x8_2) - 1)) < (l0_0.length : Int) then (if x3_2.length + ((rd_T62 l0_0 (wrap64 ((rd x3_2 x8_2) - 1))).f3).length < 17592186044416 then (middenref16_known.l2 k2 (x3_2 ++ ((rd_T62 l0_0 (wrap64 ((rd x3_2 x8_2) - 1))).f3)) (x6_2.set ((rd x3_2 x8_2) : Int).toNat true) (wrap64 (x7_2 + 1)) (wrap64 (x8_2 + 1)) l0_0 l0_1 l0_2 l0_3 l0_4 a0_5) else (none)) else (none)) else (none))) = some r := by rw [← hbq33] at H; exact H
                have Nbq33 := Aside0.mk hbq33
                clear hbq33
                by_cases c34 : (bq33 = true)
                ·subst c34
                 have H1 : (middenref16_known.l2 k2 x3_2 x6_2 x7_2 (wrap64 (x8_2 + 1)) l0_0 l0_1 l0_2 l0_3 l0_4 a0_5) = some r := by rw [if_pos rfl] at H; exact H
                 clear H
                 have H := H1
                 clear H1
                 have H' := Aside0.mk H
                 clear H
                 obtain ⟨Ao35, co35, eo35⟩ := Kd.R_slice HO_3.out
                 subst eo35
                 have p244 : 0 ≤ (x8_2 : Int) := of_decide_eq_true (by first | (with_reducible assumption) | assumption)
                 have q244 : x8_2 < (x3_2.length : Int) := of_decide_eq_true (by first | (with_reducible assumption) | assumption)
                 obtain ⟨ad244, e244, hx244_0⟩ := Kd.at_int (Kd.R_reads' HO_3.out).2.2 x8_2 p244 q244
                 cases e244
                 replace p244 := eq_true p244
                 replace q244 := eq_true q244
                 obtain ⟨Ao36, co36, eo36⟩ := Kd.R_slice HO_6.out
                 subst eo36
                 have p245 : 0 ≤ ((rd x3_2 x8_2) : Int) := of_decide_eq_true (by first | (with_reducible assumption) | assumption)
                 have q245 : (rd x3_2 x8_2) < (x6_2.length : Int) := of_decide_eq_true (by first | (with_reducible assumption) | assumption)
                 obtain ⟨ad245, e245, hx245_0⟩ := Kd.at_bool (Kd.R_reads' HO_6.out).2.2 (rd x3_2 x8_2) p245 q245
                 (try rw [← Nbq33.out] at hx245_0)
                 cases e245
                 replace p245 := eq_true p245
                 replace q245 := eq_true q245
                 go_wp2
                 go_roundg k2
                 case measure => have := HK1.out; have := HK2.out; omega
                 case rel => exact ⟨(x3_2), (x6_2), (x7_2), (wrap64 (x8_2 + 1)), (by first | rfl | (simp; done) | (simp [*]; done)), (by first | rfl | (simp; done) | (simp [*]; done)), H', ⟨by have := HK1.out; have := HK2.out; omega⟩, ⟨by (with_reducible repeat (first | apply Kd.R_alloc | apply Kd.R_drewN | apply Kd.R_drew)); exact HO_3.out⟩, ⟨by (with_reducible repeat (first | apply Kd.R_alloc | apply Kd.R_drewN | apply Kd.R_drew)); exact HO_6.out⟩, ⟨by (with_reducible repeat (first | refine blk_drewN ?_ _ | refine blk_drew ?_ | refine blk_alloc ?_ _)); exact BK225.out⟩, ⟨by repeat (first | (with_reducible first | exact HB.out | apply below_alloc | apply pw_below_drewN | apply below_drew1 | refine below_set ?_ GE225.out) | exact HB.out)⟩⟩
                ·replace c34 := Bool.eq_false_iff.mpr c34
                 subst c34
                 have H1 : (if 0 ≤ (wrap64 ((rd x3_2 x8_2) - 1)) then (if (wrap64 ((rd x3_2 x8_2) - 1)) < (l0_0.length : Int) then (if x3_2.length + ((rd_T62 l0_0 (wrap64 ((rd x3_2 x8_2) - 1))).f3).length < 17592186044416 then (middenref16_known.l2 k2 (x3_2 ++ ((rd_T62 l0_0 (wrap64 ((rd x3_2 x8_2) - 1))).f3)) (x6_2.set ((rd x3_2 x8_2) : Int).toNat true) (wrap64 (x7_2 + 1)) (wrap64 (x8_2 + 1)) l0_0 l0_1 l0_2 l0_3 l0_4 a0_5) else (none)) else (none)) else (none)) = some r := by rw [if_neg (show ¬ (false = true) by decide)] at H; exact H
                 clear H
                 have H := H1
                 clear H1
                 obtain ⟨y246, hy246⟩ : ∃ y_ : List Bool, y_ = (x6_2.set ((rd x3_2 x8_2) : Int).toNat true) := ⟨_, rfl⟩
                 replace H : (if 0 ≤ (wrap64 ((rd x3_2 x8_2) - 1)) then (if (wrap64 ((rd x3_2 x8_2) - 1)) < (l0_0.length : Int) then (if x3_2.length + ((rd_T62 l0_0 (wrap64 ((rd x3_2 x8_2) - 1))).f3).length < 17592186044416 then (middenref16_known.l2 k2 (x3_2 ++ ((rd_T62 l0_0 (wrap64 ((rd x3_2 x8_2) - 1))).f3)) y246 (wrap64 (x7_2 + 1)) (wrap64 (x8_2 + 1)) l0_0 l0_1 l0_2 l0_3 l0_4 a0_5) else (none)) else (none)) else (none)) = some r := by first | (rw [hy246]; with_reducible exact H) | (have H2_ := (Option.bind_some _ _).symm.trans H; rw [hy246]; with_reducible exact H2_) | (have H2_ := (Option.bind_some _ _).symm.trans H; with_reducible exact H2_) | with_reducible exact H | (rw [hy246]; exact H) | exact H
                 have Ny246 := Aside0.mk hy246
                 clear hy246
                 obtain ⟨ji38, hji38⟩ : ∃ j_ : Int, (wrap64 ((rd x3_2 x8_2) - 1)) = j_ := ⟨_, rfl⟩
                 replace H : (if 0 ≤ (ji38) then (if (ji38) < (l0_0.length : Int) then (if x3_2.length + ((rd_T62 l0_0 (ji38)).f3).length < 17592186044416 then (middenref16_known.l2 k2 (x3_2 ++ ((rd_T62 l0_0 (ji38)).f3)) y246 (wrap64 (x7_2 + 1)) (wrap64 (x8_2 + 1)) l0_0 l0_1 l0_2 l0_3 l0_4 a0_5) else (none)) else (none)) else (none)) = some r := by first | (rw [hji38] at H; exact H) | (simp only [hji38] at H ⊢; exact H)
                 have hji38w : (IntKind.i64.wrap ((rd x3_2 x8_2) - 1)) = ji38 := (i64_w _).trans hji38
                 by_cases c39 : 0 ≤ (ji38)
                 ·rw [if_pos c39] at H
                  have c39b0 : decide (0 ≤ (ji38)) = true := decide_eq_true c39
                  clear c39
                  by_cases c40 : (ji38) < (l0_0.length : Int)
                  ·rw [if_pos c40] at H
                   have c40b0 : decide ((ji38) < (l0_0.length : Int)) = true := decide_eq_true c40
                   clear c40
                   by_cases c41 : x3_2.length + ((rd_T62 l0_0 (ji38)).f3).length < 17592186044416
                   ·rw [if_pos c41] at H
                    have LMc41 := Aside0.mk c41
                    clear c41
                    obtain ⟨y248, hy248⟩ : ∃ y_ : List Int, y_ = (x3_2 ++ ((rd_T62 l0_0 (ji38)).f3)) := ⟨_, rfl⟩
                    replace H : (middenref16_known.l2 k2 y248 y246 (wrap64 (x7_2 + 1)) (wrap64 (x8_2 + 1)) l0_0 l0_1 l0_2 l0_3 l0_4 a0_5) = some r := by first | (rw [hy248]; with_reducible exact H) | (have H2_ := (Option.bind_some _ _).symm.trans H; rw [hy248]; with_reducible exact H2_) | (have H2_ := (Option.bind_some _ _).symm.trans H; with_reducible exact H2_) | with_reducible exact H | (rw [hy248]; exact H) | exact H
                    have Ny248 := Aside0.mk hy248
                    clear hy248
                    have H' := Aside0.mk H
                    clear H
                    obtain ⟨Ao42, co42, eo42⟩ := Kd.R_slice HO_3.out
                    subst eo42
                    have p244 : 0 ≤ (x8_2 : Int) := of_decide_eq_true (by first | (with_reducible assumption) | assumption)
                    have q244 : x8_2 < (x3_2.length : Int) := of_decide_eq_true (by first | (with_reducible assumption) | assumption)
                    obtain ⟨ad244, e244, hx244_0⟩ := Kd.at_int (Kd.R_reads' HO_3.out).2.2 x8_2 p244 q244
                    cases e244
                    replace p244 := eq_true p244
                    replace q244 := eq_true q244
                    obtain ⟨Ao43, co43, eo43⟩ := Kd.R_slice HO_6.out
                    subst eo43
                    have p245 : 0 ≤ ((rd x3_2 x8_2) : Int) := of_decide_eq_true (by first | (with_reducible assumption) | assumption)
                    have q245 : (rd x3_2 x8_2) < (x6_2.length : Int) := of_decide_eq_true (by first | (with_reducible assumption) | assumption)
                    obtain ⟨ad245, e245, hx245_0⟩ := Kd.at_bool (Kd.R_reads' HO_6.out).2.2 (rd x3_2 x8_2) p245 q245
                    (try rw [← Nbq33.out] at hx245_0)
                    cases e245
                    replace p245 := eq_true p245
                    replace q245 := eq_true q245
                    have p37 : 0 ≤ ((rd x3_2 x8_2) : Int) := of_decide_eq_true (by first | (with_reducible assumption) | assumption)
                    have q37 : ((rd x3_2 x8_2) : Int) < ((x6_2.length : Int) : Int) := of_decide_eq_true (by first | (with_reducible assumption) | assumption)
                    obtain ⟨go37, co37, eo37, gb37, gl37, cl37, HG37⟩ := Kd.R_form HO_6.out (by omega)
                    (first | cases eo37 | (injection eo37 with ea_ en_ ec_; (first | subst ea_ | (injection ea_ with ea_; subst ea_)); subst ec_; clear en_))
                    have GB37 := Aside0.mk gb37
                    have GG37 := Aside0.mk HG37
                    clear gb37 gl37 HG37
                    (first | simp only [add_plain] at hx245_0 | skip)
                    obtain ⟨hx37_0, hf37_0⟩ := Kd.R_celln false HO_6.out ((rd x3_2 x8_2) : Int) p37 q37
                    replace p37 := eq_true p37
                    replace q37 := eq_true q37
                    have HP44 := Kd.R_putg HO_6.out ((rd x3_2 x8_2) : Int) true
                    go_wp2_with (first | ((with_reducible refine gate_store (t := 4) (p := 75) rfl ?_); refine store_event (t := 4) (p := 75) (v := ?vo_w45) (w1 := (wr.setCell ⟨go37, ((rd x3_2 x8_2) : Int).toNat, none⟩ (.bool true))) ?hg ?ho ?hn ?hr ?_; (case ho => rfl); (case hg => rfl); (case hn => rfl); (case hr => first | (go_simp; done) | (go_simp; rfl)); intro w45 hw; have hg : wr.grownBy w45 (some go37) := (by rw [hw]; exact HP44.2); have hp_ : Kd.R Kd.bool 4 w45 w.heap.size (fun _ => True) (.slice (some ⟨go37, 0, none⟩) x6_2.length co43) y246 := (by rw [hw, Ny246.out]; exact HP44.1); clear HP44; have n0_ := Aside0.mk (Kd.R_over' (v := (.slice (some ⟨go37, 0, none⟩) x6_2.length co43)) (by (with_reducible repeat (first | apply Kd.R_alloc | apply Kd.R_drewN | apply Kd.R_drew)); exact HO_3.out) (Kd.R_typed HO_6.out) (by decide) hg); have n1_ := Aside0.mk (hp_); have n2_ := Aside0.mk (blk_grown (g := gb225) (o := .cells #[.slice A0_0 l0_0.length c0_0, .slice A0_1 l0_1.length c0_1, .slice A0_2 l0_2.length c0_2, .slice A0_3 l0_3.length c0_3, .slice A0_4 l0_4.length c0_4, .int .u64 a0_5] 27 (0, 0)) (by (with_reducible repeat (first | refine blk_drewN ?_ _ | refine blk_drew ?_ | refine blk_alloc ?_ _)); exact BK225.out) hg (Kd.R_ne HO_6.out BK225.out (by decide))); have n3_ := Aside0.mk ((by rw [hw]; exact below_set (HB.out) GB37.out : Below w.heap.size w w45)); clear HO_3; clear HO_6; clear BK225; clear HB; have HO_3 := n0_; have HO_6 := n1_; have BK225 := n2_; have HB := n3_; clear n0_ n1_ n2_ n3_; clear hg hw hp_; have hcz46_0 : w45.cell? ⟨gb225, 0, none⟩ = some (.slice A0_0 l0_0.length c0_0) := (blk_cell BK225.out 0).trans rfl; have hcz46_1 : w45.cell? ⟨gb225, 1, none⟩ = some (.slice A0_1 l0_1.length c0_1) := (blk_cell BK225.out 1).trans rfl; have hcz46_2 : w45.cell? ⟨gb225, 2, none⟩ = some (.slice A0_2 l0_2.length c0_2) := (blk_cell BK225.out 2).trans rfl; have hcz46_3 : w45.cell? ⟨gb225, 3, none⟩ = some (.slice A0_3 l0_3.length c0_3) := (blk_cell BK225.out 3).trans rfl; have hcz46_4 : w45.cell? ⟨gb225, 4, none⟩ = some (.slice A0_4 l0_4.length c0_4) := (blk_cell BK225.out 4).trans rfl; have hcz46_5 : w45.cell? ⟨gb225, 5, none⟩ = some (.int .u64 a0_5) := (blk_cell BK225.out 5).trans rfl; have hfz46_0 := blk_frozen BK225.out 0; have hfz46_1 := blk_frozen BK225.out 1; have hfz46_2 := blk_frozen BK225.out 2; have hfz46_3 := blk_frozen BK225.out 3; have hfz46_4 := blk_frozen BK225.out 4; have hfz46_5 := blk_frozen BK225.out 5; have p247 : 0 ≤ ((ji38) : Int) := of_decide_eq_true (by first | (with_reducible assumption) | assumption); have q247 : (ji38) < (l0_0.length : Int) := of_decide_eq_true (by first | (with_reducible assumption) | assumption); obtain ⟨ad247, A247_3, c247_3, A247_4, c247_4, e247, hx247_0, hx247_1, hx247_2, hx247_3, hx247_4, hl247_3, hi247_3, hl247_4, hi247_4⟩ := at_T62 HR0_0.out (ji38) p247 q247; cases e247; replace hx247_0 := (HB.out.cell (World.block_lt_of_cell? w _ hx247_0)).trans hx247_0; replace hx247_1 := (HB.out.cell (World.block_lt_of_cell? w _ hx247_1)).trans hx247_1; replace hx247_2 := (HB.out.cell (World.block_lt_of_cell? w _ hx247_2)).trans hx247_2; replace hx247_3 := (HB.out.cell (World.block_lt_of_cell? w _ hx247_3)).trans hx247_3; replace hx247_4 := (HB.out.cell (World.block_lt_of_cell? w _ hx247_4)).trans hx247_4; have HR247_3 := Aside0.mk hi247_3; have HC247_3 := Aside0.mk hl247_3; clear hi247_3 hl247_3; have HR247_4 := Aside0.mk hi247_4; have HC247_4 := Aside0.mk hl247_4; clear hi247_4 hl247_4; replace p247 := eq_true p247; replace q247 := eq_true q247) | ((with_reducible refine gate_builtin (b := .append) (xs := #[.tmp 78, .tmp 85]) rfl ?_); at_builtin; refine Kd.R_append_rows (Kd.int .i64) (w0 := w) w.heap.size rfl (.tmp 78) (.tmp 85) 24 3 (.int .i64 0) 8 rfl Tryd.underlying24 info3 rfl (by decide) (by omega) (.slice (some ad244) x3_2.length co42) x3_2 ((rd_T62 l0_0 (ji38)).f3) _ _ _ (fun _ => True) (fun _ => False) rfl rfl ?aO ?aR (fun _ _ h => h) (fun _ h => h.elim) ?aF ?aB ?aS ?aL ?_; (case aR => repeat (first | exact (Kd.C_below HR247_3.out HB.out) | (with_reducible refine Kd.C_alloc ?_ _) | (with_reducible refine Kd.C_drewN ?_ _) | (with_reducible refine Kd.C_drew ?_))); (case aB => exact (by repeat (first | (with_reducible first | exact HB.out | apply below_alloc | apply pw_below_drewN | apply below_drew1 | refine below_set ?_ GE225.out) | exact HB.out))); (case aF => exact (fun _ _ => trivial)); (case aO => exact (by (with_reducible repeat (first | apply Kd.R_alloc | apply Kd.R_drewN | apply Kd.R_drew)); exact HO_3.out)); (case aS => exact (below_size (by repeat (first | (with_reducible first | exact HB.out | apply below_alloc | apply pw_below_drewN | apply below_drew1 | refine below_set ?_ GE225.out) | exact HB.out)))); (case aL => have := LMc41.out; omega); intro v249 w47 ho hb hg hat; rw [← Ny248.out] at ho; have n0_ := Aside0.mk (Kd.R_over' (by (with_reducible repeat (first | apply Kd.R_alloc | apply Kd.R_drewN | apply Kd.R_drew)); exact HO_6.out) (Kd.R_typed (by (with_reducible repeat (first | apply Kd.R_alloc | apply Kd.R_drewN | apply Kd.R_drew)); exact HO_3.out)) (by decide) hg); have n1_ := Aside0.mk (blk_grown (g := gb225) (o := .cells #[.slice (some ad247) l0_0.length c0_0, .slice A0_1 l0_1.length c0_1, .slice A0_2 l0_2.length c0_2, .slice A0_3 l0_3.length c0_3, .slice A0_4 l0_4.length c0_4, .int .u64 a0_5] 27 (0, 0)) (by (with_reducible repeat (first | refine blk_drewN ?_ _ | refine blk_drew ?_ | refine blk_alloc ?_ _)); exact BK225.out) hg (Kd.R_ne HO_3.out BK225.out (by decide))); have n2_ := Aside0.mk (hb); have n3_ := Aside0.mk (ho); clear HO_6; clear BK225; clear HB; clear HO_3; have HO_6 := n0_; have BK225 := n1_; have HB := n2_; have HO250 := n3_; clear n0_ n1_ n2_ n3_; clear ho hb hg hat))
                    go_roundg k2
                    case measure => have := HK1.out; have := HK2.out; omega
                    case rel => exact ⟨(y248), (y246), (wrap64 (x7_2 + 1)), (wrap64 (x8_2 + 1)), (by first | rfl | (simp; done) | (simp [*]; done)), (by first | rfl | (simp; done) | (simp [*]; done)), H', ⟨by have := HK1.out; have := HK2.out; omega⟩, ⟨by (with_reducible repeat (first | apply Kd.R_alloc | apply Kd.R_drewN | apply Kd.R_drew)); exact HO250.out⟩, ⟨by (with_reducible repeat (first | apply Kd.R_alloc | apply Kd.R_drewN | apply Kd.R_drew)); exact HO_6.out⟩, ⟨by (with_reducible repeat (first | refine blk_drewN ?_ _ | refine blk_drew ?_ | refine blk_alloc ?_ _)); exact BK225.out⟩, ⟨by repeat (first | (with_reducible first | exact HB.out | apply below_alloc | apply pw_below_drewN | apply below_drew1 | refine below_set ?_ GE225.out) | exact HB.out)⟩⟩
                   ·rw [if_neg c41] at H
                    exact absurd H (by simp)
                  ·rw [if_neg c40] at H
                   exact absurd H (by simp)
                 ·rw [if_neg c39] at H
                  exact absurd H (by simp)
               ·rw [if_neg c32] at H
                exact absurd H (by simp)
              ·rw [if_neg c31] at H
               exact absurd H (by simp)
             ·rw [if_neg c30] at H
              have c30b0 : decide (0 < (rd x3_2 x8_2)) = false := decide_eq_false c30
              clear c30
              have H' := Aside0.mk H
              clear H
              obtain ⟨Ao48, co48, eo48⟩ := Kd.R_slice HO_3.out
              subst eo48
              have p244 : 0 ≤ (x8_2 : Int) := of_decide_eq_true (by first | (with_reducible assumption) | assumption)
              have q244 : x8_2 < (x3_2.length : Int) := of_decide_eq_true (by first | (with_reducible assumption) | assumption)
              obtain ⟨ad244, e244, hx244_0⟩ := Kd.at_int (Kd.R_reads' HO_3.out).2.2 x8_2 p244 q244
              cases e244
              replace p244 := eq_true p244
              replace q244 := eq_true q244
              go_wp2
              go_roundg k2
              case measure => have := HK1.out; have := HK2.out; omega
              case rel => exact ⟨(x3_2), (x6_2), (x7_2), (wrap64 (x8_2 + 1)), (by first | rfl | (simp; done) | (simp [*]; done)), (by first | rfl | (simp; done) | (simp [*]; done)), H', ⟨by have := HK1.out; have := HK2.out; omega⟩, ⟨by (with_reducible repeat (first | apply Kd.R_alloc | apply Kd.R_drewN | apply Kd.R_drew)); exact HO_3.out⟩, ⟨by (with_reducible repeat (first | apply Kd.R_alloc | apply Kd.R_drewN | apply Kd.R_drew)); exact HO_6.out⟩, ⟨by (with_reducible repeat (first | refine blk_drewN ?_ _ | refine blk_drew ?_ | refine blk_alloc ?_ _)); exact BK225.out⟩, ⟨by repeat (first | (with_reducible first | exact HB.out | apply below_alloc | apply pw_below_drewN | apply below_drew1 | refine below_set ?_ GE225.out) | exact HB.out)⟩⟩
            ·rw [if_neg c29] at H
             exact absurd H (by simp)
           ·rw [if_neg c28] at H
            have c28b0 : decide (x8_2 < (x3_2.length : Int)) = false := decide_eq_false c28
            clear c28
            obtain rfl := Option.some.inj H
            obtain ⟨Ao49, co49, eo49⟩ := Kd.R_slice HO_3.out
            subst eo49
            have hcz50_0 : wr.cell? ⟨gb225, 0, none⟩ = some (.slice A0_0 l0_0.length c0_0) := (blk_cell BK225.out 0).trans rfl
            have hcz50_1 : wr.cell? ⟨gb225, 1, none⟩ = some (.slice A0_1 l0_1.length c0_1) := (blk_cell BK225.out 1).trans rfl
            have hcz50_2 : wr.cell? ⟨gb225, 2, none⟩ = some (.slice A0_2 l0_2.length c0_2) := (blk_cell BK225.out 2).trans rfl
            have hcz50_3 : wr.cell? ⟨gb225, 3, none⟩ = some (.slice A0_3 l0_3.length c0_3) := (blk_cell BK225.out 3).trans rfl
            have hcz50_4 : wr.cell? ⟨gb225, 4, none⟩ = some (.slice A0_4 l0_4.length c0_4) := (blk_cell BK225.out 4).trans rfl
            have hcz50_5 : wr.cell? ⟨gb225, 5, none⟩ = some (.int .u64 a0_5) := (blk_cell BK225.out 5).trans rfl
            have hfz50_0 := blk_frozen BK225.out 0
            have hfz50_1 := blk_frozen BK225.out 1
            have hfz50_2 := blk_frozen BK225.out 2
            have hfz50_3 := blk_frozen BK225.out 3
            have hfz50_4 := blk_frozen BK225.out 4
            have hfz50_5 := blk_frozen BK225.out 5
            go_wp2
            go_ret
            exact ⟨by first | rfl | (simp [errW_none, errW_some] <;> rfl) | (simp only [← hji16]; first | rfl | (simp [errW_none, errW_some] <;> rfl)) | (simp [*, errW_none, errW_some] <;> rfl), by repeat (first | (with_reducible first | exact HB.out | apply below_alloc | apply pw_below_drewN | apply below_drew1 | refine below_set ?_ GE225.out) | exact HB.out)⟩
        ·rw [if_neg c18] at H
         exact absurd H (by simp)
       ·rw [if_neg c17] at H
        exact absurd H (by simp)
      ·rw [if_neg c15] at H
       exact absurd H (by simp)
     ·rw [if_neg c14] at H
      exact absurd H (by simp)
    ·rw [if_neg c13] at H
     exact absurd H (by simp)

end Go.Proofs.YtihjjkoddphmiaaDoor.PImageRound
