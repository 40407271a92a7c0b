-- Printed by the kit's print.sh, then cut by wip/gen/shake.py: what no text of this claim names is left out.
import Derived.Test.YtihjjkoddphmiaaDoorMPImageRoundx0
import Derived.Test.YtihjjkoddphmiaaDoorMRef5
namespace Go.Proofs.YtihjjkoddphmiaaDoor.PImageRound
open Go.RowKit Go.Proofs.YtihjjkoddphmiaaDoorW.PrintWords Go.Proofs.YtihjjkoddphmiaaDoorW.PrintLast Go.Proofs.YtihjjkoddphmiaaDoorW.PrintMore
attribute [local go_sem] max2_int min2_int max_two min_two max_three min_three max_four min_four   -- for this text's walks alone
set_option linter.unusedVariables false
set_option linter.unusedSimpArgs false

def middenref2_Pack.f (k : Nat) (a0_0 : Int) (a0_1 : Int) (a0_2 : Int) (a0_3 : Int) (a0_4 : Int) (a0_5 : Int) (a0_6 : Bool) : Option (Int × Int) := (middenref2_Check.f k a0_0 a0_1 a0_2 a0_3 a0_4 a0_5 a0_6).bind fun t189 => (if t189 = 0 then (if a0_6 = true then (some (IntKind.u64.wrap ((IntKind.u64.wrap ((IntKind.u64.wrap ((IntKind.u64.wrap ((IntKind.u64.wrap ((IntKind.u64.wrap ((IntKind.u64.wrap ((IntKind.u64.wrap ((IntKind.u64.wrap ((IntKind.u64.wrap ((IntKind.u64.wrap ((IntKind.u64.wrap ((IntKind.u64.wrap (a0_3)) * 4096)) + (IntKind.u64.wrap (a0_2)))) * 256)) + (IntKind.u64.wrap (a0_5)))) * 16)) + (IntKind.u64.wrap (a0_4)))) * 2)) + 1)) * 8)) + (IntKind.u64.wrap (a0_1)))) * 4)) + 1), 0)) else (some (IntKind.u64.wrap ((IntKind.u64.wrap ((IntKind.u64.wrap ((IntKind.u64.wrap ((IntKind.u64.wrap ((IntKind.u64.wrap ((IntKind.u64.wrap ((IntKind.u64.wrap ((IntKind.u64.wrap ((IntKind.u64.wrap ((IntKind.u64.wrap ((IntKind.u64.wrap (a0_3)) * 4096)) + (IntKind.u64.wrap (a0_2)))) * 256)) + (IntKind.u64.wrap (a0_5)))) * 16)) + (IntKind.u64.wrap (a0_4)))) * 2)) * 8)) + (IntKind.u64.wrap (a0_1)))) * 4)) + 1), 0))) else (some (0, t189)))
set_option maxHeartbeats 8000000 in
set_option maxRecDepth 100000 in
theorem middenref2_Pack.calls (k : Nat) (a0_0 : Int) (a0_1 : Int) (a0_2 : Int) (a0_3 : Int) (a0_4 : Int) (a0_5 : Int) (a0_6 : Bool) (r1 : Int) (r2 : Int) (w : World) (h : middenref2_Pack.f k a0_0 a0_1 a0_2 a0_3 a0_4 a0_5 a0_6 = some (r1, r2)) :
  Calls Tryd.prog 64 #[.agg #[.int .u64 a0_0, .int .i64 a0_1, .int .i64 a0_2, .int .i64 a0_3, .int .i64 a0_4, .int .i64 a0_5, .bool a0_6]] w fun e w' => e = .returned (.tuple #[.int .u64 r1, .int .i64 r2]) ∧ Below w.heap.size w w' := by
 have hu99 := Tryd.underlying99
 have HB := Aside0.mk (Below.refl w.heap.size w)
 have H : ((middenref2_Check.f k a0_0 a0_1 a0_2 a0_3 a0_4 a0_5 a0_6).bind fun t189 => (if t189 = 0 then (if a0_6 = true then (some (IntKind.u64.wrap ((IntKind.u64.wrap ((IntKind.u64.wrap ((IntKind.u64.wrap ((IntKind.u64.wrap ((IntKind.u64.wrap ((IntKind.u64.wrap ((IntKind.u64.wrap ((IntKind.u64.wrap ((IntKind.u64.wrap ((IntKind.u64.wrap ((IntKind.u64.wrap ((IntKind.u64.wrap (a0_3)) * 4096)) + (IntKind.u64.wrap (a0_2)))) * 256)) + (IntKind.u64.wrap (a0_5)))) * 16)) + (IntKind.u64.wrap (a0_4)))) * 2)) + 1)) * 8)) + (IntKind.u64.wrap (a0_1)))) * 4)) + 1), 0)) else (some (IntKind.u64.wrap ((IntKind.u64.wrap ((IntKind.u64.wrap ((IntKind.u64.wrap ((IntKind.u64.wrap ((IntKind.u64.wrap ((IntKind.u64.wrap ((IntKind.u64.wrap ((IntKind.u64.wrap ((IntKind.u64.wrap ((IntKind.u64.wrap ((IntKind.u64.wrap (a0_3)) * 4096)) + (IntKind.u64.wrap (a0_2)))) * 256)) + (IntKind.u64.wrap (a0_5)))) * 16)) + (IntKind.u64.wrap (a0_4)))) * 2)) * 8)) + (IntKind.u64.wrap (a0_1)))) * 4)) + 1), 0))) else (some (0, t189)))) = some (r1, r2) := h
 clear h
 replace H := Option.bind_eq_some_iff.mp H
 obtain ⟨t189, A20, H⟩ := H
 replace H : (if t189 = 0 then (if a0_6 = true then (some (IntKind.u64.wrap ((IntKind.u64.wrap ((IntKind.u64.wrap ((IntKind.u64.wrap ((IntKind.u64.wrap ((IntKind.u64.wrap ((IntKind.u64.wrap ((IntKind.u64.wrap ((IntKind.u64.wrap ((IntKind.u64.wrap ((IntKind.u64.wrap ((IntKind.u64.wrap ((IntKind.u64.wrap (a0_3)) * 4096)) + (IntKind.u64.wrap (a0_2)))) * 256)) + (IntKind.u64.wrap (a0_5)))) * 16)) + (IntKind.u64.wrap (a0_4)))) * 2)) + 1)) * 8)) + (IntKind.u64.wrap (a0_1)))) * 4)) + 1), 0)) else (some (IntKind.u64.wrap ((IntKind.u64.wrap ((IntKind.u64.wrap ((IntKind.u64.wrap ((IntKind.u64.wrap ((IntKind.u64.wrap ((IntKind.u64.wrap ((IntKind.u64.wrap ((IntKind.u64.wrap ((IntKind.u64.wrap ((IntKind.u64.wrap ((IntKind.u64.wrap (a0_3)) * 4096)) + (IntKind.u64.wrap (a0_2)))) * 256)) + (IntKind.u64.wrap (a0_5)))) * 16)) + (IntKind.u64.wrap (a0_4)))) * 2)) * 8)) + (IntKind.u64.wrap (a0_1)))) * 4)) + 1), 0))) else (some (0, t189))) = some (r1, r2) := H
 have A2 := Aside0.mk A20
 clear A20
 by_cases c3 : t189 = 0
 ·rw [if_pos c3] at H
  have c3b0 : (t189 == 0) = true := beq_iff_eq.mpr c3
  have c3b1 : (t189 != 0) = false := bne_eq_false_iff_eq.mpr c3
  clear c3
  by_cases c4 : a0_6 = true
  ·subst c4
   have H1 : (some (IntKind.u64.wrap ((IntKind.u64.wrap ((IntKind.u64.wrap ((IntKind.u64.wrap ((IntKind.u64.wrap ((IntKind.u64.wrap ((IntKind.u64.wrap ((IntKind.u64.wrap ((IntKind.u64.wrap ((IntKind.u64.wrap ((IntKind.u64.wrap ((IntKind.u64.wrap ((IntKind.u64.wrap (a0_3)) * 4096)) + (IntKind.u64.wrap (a0_2)))) * 256)) + (IntKind.u64.wrap (a0_5)))) * 16)) + (IntKind.u64.wrap (a0_4)))) * 2)) + 1)) * 8)) + (IntKind.u64.wrap (a0_1)))) * 4)) + 1), 0)) = some (r1, r2) := by rw [if_pos rfl] at H; exact H
   clear H
   have H := H1
   clear H1
   simp only [Option.some.injEq, Prod.mk.injEq] at H
   obtain ⟨rfl, rfl⟩ := H
   go_enter Tryd.func64, Tryd.ntmps64
   go_wp2_with (first | ((with_reducible refine gate_dst (N := 1) rfl ?_); refine box_event ?hg (N := 1) ?hd (cs := #[.int .u64 a0_0, .int .i64 a0_1, .int .i64 a0_2, .int .i64 a0_3, .int .i64 a0_4, .int .i64 a0_5, .bool true]) (t := 99) ?hr ?_; (case hd => rfl); (case hg => rfl); (case hr => first | (go_simp; done) | (go_simp; rfl)); intro gb188 hg w5 hbox hb; have n0_ := Aside0.mk (below_step (by repeat (first | (with_reducible first | exact HB.out | apply below_alloc | apply pw_below_drewN | apply below_drew1) | exact HB.out)) hb); have n1_ := Aside0.mk (hbox); have n2_ := Aside0.mk ((by rw [hg]; exact (below_size (by repeat (first | (with_reducible first | exact HB.out | apply below_alloc | apply pw_below_drewN | apply below_drew1) | exact HB.out))) : w.heap.size ≤ gb188)); have n3_ := Aside0.mk ((by rw [hg]; exact (below_size (by repeat (first | (with_reducible first | exact HB.out | apply below_alloc | apply pw_below_drewN | apply below_drew1) | exact HB.out))) : w.heap.size ≤ gb188)); clear HB; have HB := n0_; have BK188 := n1_; have GW188 := n2_; have GE188 := n3_; clear n0_ n1_ n2_ n3_; clear hb hbox hg; have hcz6_0 : w5.cell? ⟨gb188, 0, none⟩ = some (.int .u64 a0_0) := (blk_cell BK188.out 0).trans rfl; have hcz6_1 : w5.cell? ⟨gb188, 1, none⟩ = some (.int .i64 a0_1) := (blk_cell BK188.out 1).trans rfl; have hcz6_2 : w5.cell? ⟨gb188, 2, none⟩ = some (.int .i64 a0_2) := (blk_cell BK188.out 2).trans rfl; have hcz6_3 : w5.cell? ⟨gb188, 3, none⟩ = some (.int .i64 a0_3) := (blk_cell BK188.out 3).trans rfl; have hcz6_4 : w5.cell? ⟨gb188, 4, none⟩ = some (.int .i64 a0_4) := (blk_cell BK188.out 4).trans rfl; have hcz6_5 : w5.cell? ⟨gb188, 5, none⟩ = some (.int .i64 a0_5) := (blk_cell BK188.out 5).trans rfl; have hcz6_6 : w5.cell? ⟨gb188, 6, none⟩ = some (.bool true) := (blk_cell BK188.out 6).trans rfl; have hfz6_0 := blk_frozen BK188.out 0; have hfz6_1 := blk_frozen BK188.out 1; have hfz6_2 := blk_frozen BK188.out 2; have hfz6_3 := blk_frozen BK188.out 3; have hfz6_4 := blk_frozen BK188.out 4; have hfz6_5 := blk_frozen BK188.out 5; have hfz6_6 := blk_frozen BK188.out 6) | ((with_reducible refine gate_callee (f := 81) rfl ?_); refine goesL_ (some 7) rfl rfl Tryd.func81 (by kernel_rfl) rfl #[.agg #[.int .u64 a0_0, .int .i64 a0_1, .int .i64 a0_2, .int .i64 a0_3, .int .i64 a0_4, .int .i64 a0_5, .bool true]] rfl (by (try simp only [List.map_toArray, List.map_cons, List.map_nil]); first | done | rfl | (simp only [List.length_drop, List.length_take]; rfl)) ?_; (with_reducible refine (middenref2_Check.calls k a0_0 a0_1 a0_2 a0_3 a0_4 a0_5 true t189 _ A2.out).mono ?_); rintro e w7 ⟨rfl, hb⟩; refine ⟨_, rfl, ?_⟩; have n0_ := Aside0.mk (blk_below (g := gb188) (o := .cells #[.int .u64 a0_0, .int .i64 a0_1, .int .i64 a0_2, .int .i64 a0_3, .int .i64 a0_4, .int .i64 a0_5, .bool true] 99 (0, 0)) (by (with_reducible repeat (first | refine blk_drewN ?_ _ | refine blk_drew ?_ | refine blk_alloc ?_ _)); exact BK188.out) hb); have n1_ := Aside0.mk (below_step (by repeat (first | (with_reducible first | exact HB.out | apply below_alloc | apply pw_below_drewN | apply below_drew1 | refine below_set ?_ GE188.out) | exact HB.out)) hb); clear BK188; clear HB; have BK188 := n0_; have HB := n1_; clear n0_ n1_; (try clear hb); (try clear hb2); (try clear hk); (try clear hi); have hcz8_0 : w7.cell? ⟨gb188, 0, none⟩ = some (.int .u64 a0_0) := (blk_cell BK188.out 0).trans rfl; have hcz8_1 : w7.cell? ⟨gb188, 1, none⟩ = some (.int .i64 a0_1) := (blk_cell BK188.out 1).trans rfl; have hcz8_2 : w7.cell? ⟨gb188, 2, none⟩ = some (.int .i64 a0_2) := (blk_cell BK188.out 2).trans rfl; have hcz8_3 : w7.cell? ⟨gb188, 3, none⟩ = some (.int .i64 a0_3) := (blk_cell BK188.out 3).trans rfl; have hcz8_4 : w7.cell? ⟨gb188, 4, none⟩ = some (.int .i64 a0_4) := (blk_cell BK188.out 4).trans rfl; have hcz8_5 : w7.cell? ⟨gb188, 5, none⟩ = some (.int .i64 a0_5) := (blk_cell BK188.out 5).trans rfl; have hcz8_6 : w7.cell? ⟨gb188, 6, none⟩ = some (.bool true) := (blk_cell BK188.out 6).trans rfl; have hfz8_0 := blk_frozen BK188.out 0; have hfz8_1 := blk_frozen BK188.out 1; have hfz8_2 := blk_frozen BK188.out 2; have hfz8_3 := blk_frozen BK188.out 3; have hfz8_4 := blk_frozen BK188.out 4; have hfz8_5 := blk_frozen BK188.out 5; have hfz8_6 := blk_frozen BK188.out 6))
   go_ret2
   exact ⟨by first | rfl | (simp [errW_none, errW_some] <;> rfl) | (simp [*, errW_none, errW_some] <;> rfl), by repeat (first | (with_reducible first | exact HB.out | apply below_alloc | apply pw_below_drewN | apply below_drew1 | refine below_set ?_ GE188.out) | exact HB.out)⟩
  ·replace c4 := Bool.eq_false_iff.mpr c4
   subst c4
   have H1 : (some (IntKind.u64.wrap ((IntKind.u64.wrap ((IntKind.u64.wrap ((IntKind.u64.wrap ((IntKind.u64.wrap ((IntKind.u64.wrap ((IntKind.u64.wrap ((IntKind.u64.wrap ((IntKind.u64.wrap ((IntKind.u64.wrap ((IntKind.u64.wrap ((IntKind.u64.wrap (a0_3)) * 4096)) + (IntKind.u64.wrap (a0_2)))) * 256)) + (IntKind.u64.wrap (a0_5)))) * 16)) + (IntKind.u64.wrap (a0_4)))) * 2)) * 8)) + (IntKind.u64.wrap (a0_1)))) * 4)) + 1), 0)) = some (r1, r2) := by rw [if_neg (show ¬ (false = true) by decide)] at H; exact H
   clear H
   have H := H1
   clear H1
   simp only [Option.some.injEq, Prod.mk.injEq] at H
   obtain ⟨rfl, rfl⟩ := H
   go_enter Tryd.func64, Tryd.ntmps64
   go_wp2_with (first | ((with_reducible refine gate_dst (N := 1) rfl ?_); refine box_event ?hg (N := 1) ?hd (cs := #[.int .u64 a0_0, .int .i64 a0_1, .int .i64 a0_2, .int .i64 a0_3, .int .i64 a0_4, .int .i64 a0_5, .bool false]) (t := 99) ?hr ?_; (case hd => rfl); (case hg => rfl); (case hr => first | (go_simp; done) | (go_simp; rfl)); intro gb188 hg w9 hbox hb; have n0_ := Aside0.mk (below_step (by repeat (first | (with_reducible first | exact HB.out | apply below_alloc | apply pw_below_drewN | apply below_drew1) | exact HB.out)) hb); have n1_ := Aside0.mk (hbox); have n2_ := Aside0.mk ((by rw [hg]; exact (below_size (by repeat (first | (with_reducible first | exact HB.out | apply below_alloc | apply pw_below_drewN | apply below_drew1) | exact HB.out))) : w.heap.size ≤ gb188)); have n3_ := Aside0.mk ((by rw [hg]; exact (below_size (by repeat (first | (with_reducible first | exact HB.out | apply below_alloc | apply pw_below_drewN | apply below_drew1) | exact HB.out))) : w.heap.size ≤ gb188)); clear HB; have HB := n0_; have BK188 := n1_; have GW188 := n2_; have GE188 := n3_; clear n0_ n1_ n2_ n3_; clear hb hbox hg; have hcz10_0 : w9.cell? ⟨gb188, 0, none⟩ = some (.int .u64 a0_0) := (blk_cell BK188.out 0).trans rfl; have hcz10_1 : w9.cell? ⟨gb188, 1, none⟩ = some (.int .i64 a0_1) := (blk_cell BK188.out 1).trans rfl; have hcz10_2 : w9.cell? ⟨gb188, 2, none⟩ = some (.int .i64 a0_2) := (blk_cell BK188.out 2).trans rfl; have hcz10_3 : w9.cell? ⟨gb188, 3, none⟩ = some (.int .i64 a0_3) := (blk_cell BK188.out 3).trans rfl; have hcz10_4 : w9.cell? ⟨gb188, 4, none⟩ = some (.int .i64 a0_4) := (blk_cell BK188.out 4).trans rfl; have hcz10_5 : w9.cell? ⟨gb188, 5, none⟩ = some (.int .i64 a0_5) := (blk_cell BK188.out 5).trans rfl; have hcz10_6 : w9.cell? ⟨gb188, 6, none⟩ = some (.bool false) := (blk_cell BK188.out 6).trans rfl; have hfz10_0 := blk_frozen BK188.out 0; have hfz10_1 := blk_frozen BK188.out 1; have hfz10_2 := blk_frozen BK188.out 2; have hfz10_3 := blk_frozen BK188.out 3; have hfz10_4 := blk_frozen BK188.out 4; have hfz10_5 := blk_frozen BK188.out 5; have hfz10_6 := blk_frozen BK188.out 6) | ((with_reducible refine gate_callee (f := 81) rfl ?_); refine goesL_ (some 7) rfl rfl Tryd.func81 (by kernel_rfl) rfl #[.agg #[.int .u64 a0_0, .int .i64 a0_1, .int .i64 a0_2, .int .i64 a0_3, .int .i64 a0_4, .int .i64 a0_5, .bool false]] rfl (by (try simp only [List.map_toArray, List.map_cons, List.map_nil]); first | done | rfl | (simp only [List.length_drop, List.length_take]; rfl)) ?_; (with_reducible refine (middenref2_Check.calls k a0_0 a0_1 a0_2 a0_3 a0_4 a0_5 false t189 _ A2.out).mono ?_); rintro e w11 ⟨rfl, hb⟩; refine ⟨_, rfl, ?_⟩; have n0_ := Aside0.mk (blk_below (g := gb188) (o := .cells #[.int .u64 a0_0, .int .i64 a0_1, .int .i64 a0_2, .int .i64 a0_3, .int .i64 a0_4, .int .i64 a0_5, .bool false] 99 (0, 0)) (by (with_reducible repeat (first | refine blk_drewN ?_ _ | refine blk_drew ?_ | refine blk_alloc ?_ _)); exact BK188.out) hb); have n1_ := Aside0.mk (below_step (by repeat (first | (with_reducible first | exact HB.out | apply below_alloc | apply pw_below_drewN | apply below_drew1 | refine below_set ?_ GE188.out) | exact HB.out)) hb); clear BK188; clear HB; have BK188 := n0_; have HB := n1_; clear n0_ n1_; (try clear hb); (try clear hb2); (try clear hk); (try clear hi); have hcz12_0 : w11.cell? ⟨gb188, 0, none⟩ = some (.int .u64 a0_0) := (blk_cell BK188.out 0).trans rfl; have hcz12_1 : w11.cell? ⟨gb188, 1, none⟩ = some (.int .i64 a0_1) := (blk_cell BK188.out 1).trans rfl; have hcz12_2 : w11.cell? ⟨gb188, 2, none⟩ = some (.int .i64 a0_2) := (blk_cell BK188.out 2).trans rfl; have hcz12_3 : w11.cell? ⟨gb188, 3, none⟩ = some (.int .i64 a0_3) := (blk_cell BK188.out 3).trans rfl; have hcz12_4 : w11.cell? ⟨gb188, 4, none⟩ = some (.int .i64 a0_4) := (blk_cell BK188.out 4).trans rfl; have hcz12_5 : w11.cell? ⟨gb188, 5, none⟩ = some (.int .i64 a0_5) := (blk_cell BK188.out 5).trans rfl; have hcz12_6 : w11.cell? ⟨gb188, 6, none⟩ = some (.bool false) := (blk_cell BK188.out 6).trans rfl; have hfz12_0 := blk_frozen BK188.out 0; have hfz12_1 := blk_frozen BK188.out 1; have hfz12_2 := blk_frozen BK188.out 2; have hfz12_3 := blk_frozen BK188.out 3; have hfz12_4 := blk_frozen BK188.out 4; have hfz12_5 := blk_frozen BK188.out 5; have hfz12_6 := blk_frozen BK188.out 6))
   go_ret2
   exact ⟨by first | rfl | (simp [errW_none, errW_some] <;> rfl) | (simp [*, errW_none, errW_some] <;> rfl), by repeat (first | (with_reducible first | exact HB.out | apply below_alloc | apply pw_below_drewN | apply below_drew1 | refine below_set ?_ GE188.out) | exact HB.out)⟩
 ·rw [if_neg c3] at H
  have c3b0 : (t189 == 0) = false := beq_eq_false_iff_ne.mpr c3
  have c3b1 : (t189 != 0) = true := bne_iff_ne.mpr c3
  simp only [Option.some.injEq, Prod.mk.injEq] at H
  obtain ⟨rfl, rfl⟩ := H
  go_enter Tryd.func64, Tryd.ntmps64
  go_wp2_with (first | ((with_reducible refine gate_dst (N := 1) rfl ?_); refine box_event ?hg (N := 1) ?hd (cs := #[.int .u64 a0_0, .int .i64 a0_1, .int .i64 a0_2, .int .i64 a0_3, .int .i64 a0_4, .int .i64 a0_5, .bool a0_6]) (t := 99) ?hr ?_; (case hd => rfl); (case hg => rfl); (case hr => first | (go_simp; done) | (go_simp; rfl)); intro gb188 hg w13 hbox hb; have n0_ := Aside0.mk (below_step (by repeat (first | (with_reducible first | exact HB.out | apply below_alloc | apply pw_below_drewN | apply below_drew1) | exact HB.out)) hb); have n1_ := Aside0.mk (hbox); have n2_ := Aside0.mk ((by rw [hg]; exact (below_size (by repeat (first | (with_reducible first | exact HB.out | apply below_alloc | apply pw_below_drewN | apply below_drew1) | exact HB.out))) : w.heap.size ≤ gb188)); have n3_ := Aside0.mk ((by rw [hg]; exact (below_size (by repeat (first | (with_reducible first | exact HB.out | apply below_alloc | apply pw_below_drewN | apply below_drew1) | exact HB.out))) : w.heap.size ≤ gb188)); clear HB; have HB := n0_; have BK188 := n1_; have GW188 := n2_; have GE188 := n3_; clear n0_ n1_ n2_ n3_; clear hb hbox hg; have hcz14_0 : w13.cell? ⟨gb188, 0, none⟩ = some (.int .u64 a0_0) := (blk_cell BK188.out 0).trans rfl; have hcz14_1 : w13.cell? ⟨gb188, 1, none⟩ = some (.int .i64 a0_1) := (blk_cell BK188.out 1).trans rfl; have hcz14_2 : w13.cell? ⟨gb188, 2, none⟩ = some (.int .i64 a0_2) := (blk_cell BK188.out 2).trans rfl; have hcz14_3 : w13.cell? ⟨gb188, 3, none⟩ = some (.int .i64 a0_3) := (blk_cell BK188.out 3).trans rfl; have hcz14_4 : w13.cell? ⟨gb188, 4, none⟩ = some (.int .i64 a0_4) := (blk_cell BK188.out 4).trans rfl; have hcz14_5 : w13.cell? ⟨gb188, 5, none⟩ = some (.int .i64 a0_5) := (blk_cell BK188.out 5).trans rfl; have hcz14_6 : w13.cell? ⟨gb188, 6, none⟩ = some (.bool a0_6) := (blk_cell BK188.out 6).trans rfl; have hfz14_0 := blk_frozen BK188.out 0; have hfz14_1 := blk_frozen BK188.out 1; have hfz14_2 := blk_frozen BK188.out 2; have hfz14_3 := blk_frozen BK188.out 3; have hfz14_4 := blk_frozen BK188.out 4; have hfz14_5 := blk_frozen BK188.out 5; have hfz14_6 := blk_frozen BK188.out 6) | ((with_reducible refine gate_callee (f := 81) rfl ?_); refine goesL_ (some 7) rfl rfl Tryd.func81 (by kernel_rfl) rfl #[.agg #[.int .u64 a0_0, .int .i64 a0_1, .int .i64 a0_2, .int .i64 a0_3, .int .i64 a0_4, .int .i64 a0_5, .bool a0_6]] rfl (by (try simp only [List.map_toArray, List.map_cons, List.map_nil]); first | done | rfl | (simp only [List.length_drop, List.length_take]; rfl)) ?_; (with_reducible refine (middenref2_Check.calls k a0_0 a0_1 a0_2 a0_3 a0_4 a0_5 a0_6 t189 _ A2.out).mono ?_); rintro e w15 ⟨rfl, hb⟩; refine ⟨_, rfl, ?_⟩; have n0_ := Aside0.mk (blk_below (g := gb188) (o := .cells #[.int .u64 a0_0, .int .i64 a0_1, .int .i64 a0_2, .int .i64 a0_3, .int .i64 a0_4, .int .i64 a0_5, .bool a0_6] 99 (0, 0)) (by (with_reducible repeat (first | refine blk_drewN ?_ _ | refine blk_drew ?_ | refine blk_alloc ?_ _)); exact BK188.out) hb); have n1_ := Aside0.mk (below_step (by repeat (first | (with_reducible first | exact HB.out | apply below_alloc | apply pw_below_drewN | apply below_drew1 | refine below_set ?_ GE188.out) | exact HB.out)) hb); clear BK188; clear HB; have BK188 := n0_; have HB := n1_; clear n0_ n1_; (try clear hb); (try clear hb2); (try clear hk); (try clear hi)))
  go_ret2
  exact ⟨by first | rfl | (simp [errW_none, errW_some] <;> rfl) | (simp [*, errW_none, errW_some] <;> rfl), by repeat (first | (with_reducible first | exact HB.out | apply below_alloc | apply pw_below_drewN | apply below_drew1 | refine below_set ?_ GE188.out) | exact HB.out)⟩

def middenref16_between.l0 : Nat → List Int → Int → Int → Int → Option (Bool)
 | 0, _, _, _, _ => none
 | k + 1, x0, x1, x2, x7 => if x7 < (x0.length : Int) then (if 0 ≤ x7 then (if (rd x0 x7) < x1 then (some false) else (if (rd x0 x7) > x2 then (some false) else (middenref16_between.l0 k x0 x1 x2 (wrap64 (x7 + 1))))) else (none)) else (some true)
def middenref16_between.f (k : Nat) (l0 : List Int) (a1 : Int) (a2 : Int) : Option (Bool) := middenref16_between.l0 k l0 a1 a2 0
set_option maxHeartbeats 8000000 in
set_option maxRecDepth 100000 in
theorem middenref16_between.calls (k : Nat) (A0 : Option Addr) (c0 : Nat) (l0 : List Int) (a1 : Int) (a2 : Int) (r : Bool) (w : World) (hr0 : Kd.C (Kd.int .i64) w A0 l0.length l0) (hc0 : l0.length ≤ c0) (h : middenref16_between.f k l0 a1 a2 = some r) :
  Calls Tryd.prog 65 #[.slice A0 l0.length c0, .int .i64 a1, .int .i64 a2] w fun e w' => e = .returned (.bool r) ∧ Drawn0 w w' := by
 have HR0 := Aside0.mk hr0
 have HC0 := Aside0.mk hc0
 clear hr0 hc0
 have H : (middenref16_between.l0 k l0 a1 a2 0) = some r := h
 clear h
 have H' := Aside0.mk H
 clear H
 go_enter Tryd.func65, Tryd.ntmps65
 go_wp2
 go_loopg [7] k (fun kq v7 w' => ∃ (x7_1 : Int), v7 = .int .i64 x7_1 ∧ Aside0 (middenref16_between.l0 kq l0 a1 a2 x7_1 = some r) ∧ Aside0 (kq ≤ k) ∧ Drawn0 w w')
 case atStart => exact ⟨(0), (by first | rfl | (simp; done) | (simp [*]; done)), H', ⟨Nat.le_refl _⟩, by repeat (first | exact Drawn0.refl _ | apply Drawn0.step)⟩
 case round =>
  clear H'
  try clear p2
  obtain ⟨x7_1, rfl, HA, HK1, ⟨m1, rfl⟩⟩ := hrel
  cases gk with
  | zero => exact absurd HA.out (by simp [middenref16_between.l0])
  | succ k1 =>
   have H := HA.out
   clear HA
   simp only [middenref16_between.l0] at H
   by_cases c4 : x7_1 < (l0.length : Int)
   ·rw [if_pos c4] at H
    have c4b0 : decide (x7_1 < (l0.length : Int)) = true := decide_eq_true c4
    clear c4
    by_cases c5 : 0 ≤ x7_1
    ·rw [if_pos c5] at H
     have c5b0 : decide (0 ≤ x7_1) = true := decide_eq_true c5
     clear c5
     by_cases c6 : (rd l0 x7_1) < a1
     ·rw [if_pos c6] at H
      have c6b0 : decide ((rd l0 x7_1) < a1) = true := decide_eq_true c6
      clear c6
      obtain rfl := Option.some.inj H
      have p190 : 0 ≤ (x7_1 : Int) := of_decide_eq_true (by first | (with_reducible assumption) | assumption)
      have q190 : x7_1 < (l0.length : Int) := of_decide_eq_true (by first | (with_reducible assumption) | assumption)
      obtain ⟨ad190, e190, hx190_0⟩ := Kd.at_int HR0.out x7_1 p190 q190
      cases e190
      replace p190 := eq_true p190
      replace q190 := eq_true q190
      go_wp2
      go_ret
      exact ⟨by first | rfl | (simp; done) | (simp [*]; done), by repeat (first | exact Drawn0.refl _ | apply Drawn0.step)⟩
     ·rw [if_neg c6] at H
      have c6b0 : decide ((rd l0 x7_1) < a1) = false := decide_eq_false c6
      clear c6
      by_cases c7 : (rd l0 x7_1) > a2
      ·rw [if_pos c7] at H
       have c7b0 : decide (a2 < (rd l0 x7_1)) = true := decide_eq_true c7
       clear c7
       obtain rfl := Option.some.inj H
       have p190 : 0 ≤ (x7_1 : Int) := of_decide_eq_true (by first | (with_reducible assumption) | assumption)
       have q190 : x7_1 < (l0.length : Int) := of_decide_eq_true (by first | (with_reducible assumption) | assumption)
       obtain ⟨ad190, e190, hx190_0⟩ := Kd.at_int HR0.out x7_1 p190 q190
       cases e190
       replace p190 := eq_true p190
       replace q190 := eq_true q190
       have p191 : 0 ≤ (x7_1 : Int) := of_decide_eq_true (by first | (with_reducible assumption) | assumption)
       have q191 : x7_1 < (l0.length : Int) := of_decide_eq_true (by first | (with_reducible assumption) | assumption)
       obtain ⟨ad191, e191, hx191_0⟩ := Kd.at_int HR0.out x7_1 p191 q191
       obtain rfl : ad190 = ad191 := (by injection e191)
       replace p191 := eq_true p191
       replace q191 := eq_true q191
       go_wp2
       go_ret
       exact ⟨by first | rfl | (simp; done) | (simp [*]; done), by repeat (first | exact Drawn0.refl _ | apply Drawn0.step)⟩
      ·rw [if_neg c7] at H
       have c7b0 : decide (a2 < (rd l0 x7_1)) = false := decide_eq_false c7
       clear c7
       have H' := Aside0.mk H
       clear H
       have p190 : 0 ≤ (x7_1 : Int) := of_decide_eq_true (by first | (with_reducible assumption) | assumption)
       have q190 : x7_1 < (l0.length : Int) := of_decide_eq_true (by first | (with_reducible assumption) | assumption)
       obtain ⟨ad190, e190, hx190_0⟩ := Kd.at_int HR0.out x7_1 p190 q190
       cases e190
       replace p190 := eq_true p190
       replace q190 := eq_true q190
       have p191 : 0 ≤ (x7_1 : Int) := of_decide_eq_true (by first | (with_reducible assumption) | assumption)
       have q191 : x7_1 < (l0.length : Int) := of_decide_eq_true (by first | (with_reducible assumption) | assumption)
       obtain ⟨ad191, e191, hx191_0⟩ := Kd.at_int HR0.out x7_1 p191 q191
       obtain rfl : ad190 = ad191 := (by injection e191)
       replace p191 := eq_true p191
       replace q191 := eq_true q191
       go_wp2
       go_roundg k1
       case measure => have := HK1.out; omega
       case rel => exact ⟨(wrap64 (x7_1 + 1)), (by first | rfl | (simp; done) | (simp [*]; done)), H', ⟨by have := HK1.out; omega⟩, by repeat (first | exact Drawn0.refl _ | apply Drawn0.step)⟩
    ·rw [if_neg c5] at H
     exact absurd H (by simp)
   ·rw [if_neg c4] at H
    have c4b0 : decide (x7_1 < (l0.length : Int)) = false := decide_eq_false c4
    clear c4
    obtain rfl := Option.some.inj H
    go_wp2
    go_ret
    exact ⟨by first | rfl | (simp; done) | (simp [*]; done), by repeat (first | exact Drawn0.refl _ | apply Drawn0.step)⟩

mutual
def middenref16_objects.j0 : Nat → Bool → List (S62) → List (List (List Int)) → List Int → List Int → List Int → Int → Option (Bool)
 | 0, _, _, _, _, _, _, _ => none
 | k + 1, x15, x193000, x193001, x193002, x193003, x193004, x193005 => if x15 = true then (some false) else (middenref16_objects.l0 k 0 0 x193000 x193001 x193002 x193003 x193004 x193005)
def middenref16_objects.l0 : Nat → Int → Int → List (S62) → List (List (List Int)) → List Int → List Int → List Int → Int → Option (Bool)
 | 0, _, _, _, _, _, _, _, _ => none
 | k + 1, x3, x4, x193000, x193001, x193002, x193003, x193004, x193005 => if x4 < (x193000.length : Int) then (if 0 ≤ x4 then ((middenref2_Pack.f k 0 ((rd_T62 x193000 x4).f1) (((rd_T62 x193000 x4).f3).length : Int) (((rd_T62 x193000 x4).f4).length : Int) 0 ((rd_T62 x193000 x4).f2) false).bind fun bt195 => (if ((rd_T62 x193000 x4).f0) ≤ x3 then (some false) else (if ((rd_T62 x193000 x4).f0) ≥ x193005 then (some false) else (if bt195.2 = 0 then ((middenref16_between.f k ((rd_T62 x193000 x4).f3) 0 (x193000.length : Int)).bind fun t197 => (if t197 = true then (middenref16_objects.l0 k ((rd_T62 x193000 x4).f0) (wrap64 (x4 + 1)) x193000 x193001 x193002 x193003 x193004 x193005) else (some false))) else (some false))))) else (none)) else (some true)
end
def middenref16_objects.f (k : Nat) (l0_0 : List (S62)) (l0_1 : List (List (List Int))) (l0_2 : List Int) (l0_3 : List Int) (l0_4 : List Int) (a0_5 : Int) : Option (Bool) := if a0_5 < 1 then (middenref16_objects.j0 k true l0_0 l0_1 l0_2 l0_3 l0_4 a0_5) else (middenref16_objects.j0 k (decide (a0_5 > 4611686018427387905)) l0_0 l0_1 l0_2 l0_3 l0_4 a0_5)
set_option maxHeartbeats 8000000 in
set_option maxRecDepth 100000 in
theorem middenref16_objects.calls (k : Nat) (A0_0 : Option Addr) (c0_0 : Nat) (l0_0 : List (S62)) (A0_1 : Option Addr) (c0_1 : Nat) (l0_1 : List (List (List Int))) (A0_2 : Option Addr) (c0_2 : Nat) (l0_2 : List Int) (A0_3 : Option Addr) (c0_3 : Nat) (l0_3 : List Int) (A0_4 : Option Addr) (c0_4 : Nat) (l0_4 : List Int) (a0_5 : Int) (r : Bool) (w : World) (hr0_0 : Kd.C k62 w A0_0 l0_0.length l0_0) (hc0_0 : l0_0.length ≤ c0_0) (hr0_1 : Kd.C (Kd.slice 24 (Kd.slice 3 (Kd.int .i64))) w A0_1 l0_1.length l0_1) (hc0_1 : l0_1.length ≤ c0_1) (hr0_2 : Kd.C (Kd.int .i64) w A0_2 l0_2.length l0_2) (hc0_2 : l0_2.length ≤ c0_2) (hr0_3 : Kd.C (Kd.int .i64) w A0_3 l0_3.length l0_3) (hc0_3 : l0_3.length ≤ c0_3) (hr0_4 : Kd.C (Kd.int .i64) w A0_4 l0_4.length l0_4) (hc0_4 : l0_4.length ≤ c0_4) (h : middenref16_objects.f k l0_0 l0_1 l0_2 l0_3 l0_4 a0_5 = some r) :
  Calls Tryd.prog 30 #[.agg #[.slice A0_0 l0_0.length c0_0, .slice A0_1 l0_1.length c0_1, .slice A0_2 l0_2.length c0_2, .slice A0_3 l0_3.length c0_3, .slice A0_4 l0_4.length c0_4, .int .u64 a0_5]] w fun e w' => e = .returned (.bool r) ∧ Below w.heap.size w w' := by
 have hu27 := Tryd.underlying27
 have hu62 := Tryd.underlying62
 have hu99 := Tryd.underlying99
 have HR0_0 := Aside0.mk hr0_0
 have HC0_0 := Aside0.mk hc0_0
 clear hr0_0 hc0_0
 have HR0_1 := Aside0.mk hr0_1
 have HC0_1 := Aside0.mk hc0_1
 clear hr0_1 hc0_1
 have HR0_2 := Aside0.mk hr0_2
 have HC0_2 := Aside0.mk hc0_2
 clear hr0_2 hc0_2
 have HR0_3 := Aside0.mk hr0_3
 have HC0_3 := Aside0.mk hc0_3
 clear hr0_3 hc0_3
 have HR0_4 := Aside0.mk hr0_4
 have HC0_4 := Aside0.mk hc0_4
 clear hr0_4 hc0_4
 have HB := Aside0.mk (Below.refl w.heap.size w)
 have H : (if a0_5 < 1 then (middenref16_objects.j0 k true l0_0 l0_1 l0_2 l0_3 l0_4 a0_5) else (middenref16_objects.j0 k (decide (a0_5 > 4611686018427387905)) l0_0 l0_1 l0_2 l0_3 l0_4 a0_5)) = some r := h
 clear h
 have HC2 := Aside0.mk H
 clear H
 go_enter Tryd.func30, Tryd.ntmps30
 go_upto_region 1 with (first | ((with_reducible refine gate_dst (N := 1) rfl ?_); (try (refine gate_guard (by rfl) ?_; dsimp only)); refine box_event ?hg (N := 1) ?hd (cs := #[.slice A0_0 l0_0.length c0_0, .slice A0_1 l0_1.length c0_1, .slice A0_2 l0_2.length c0_2, .slice A0_3 l0_3.length c0_3, .slice A0_4 l0_4.length c0_4, .int .u64 a0_5]) (t := 27) ?hr ?_; (case hd => rfl); (case hg => rfl); (case hr => first | (go_simp; done) | (go_simp; rfl)); intro gb192 hg w3 hbox hb; have n0_ := Aside0.mk (below_step (by repeat (first | (with_reducible first | exact HB.out | apply below_alloc | apply pw_below_drewN | apply below_drew1) | exact HB.out)) hb); have n1_ := Aside0.mk (hbox); have n2_ := Aside0.mk ((by rw [hg]; exact (below_size (by repeat (first | (with_reducible first | exact HB.out | apply below_alloc | apply pw_below_drewN | apply below_drew1) | exact HB.out))) : w.heap.size ≤ gb192)); have n3_ := Aside0.mk ((by rw [hg]; exact (below_size (by repeat (first | (with_reducible first | exact HB.out | apply below_alloc | apply pw_below_drewN | apply below_drew1) | exact HB.out))) : w.heap.size ≤ gb192)); clear HB; have HB := n0_; have BK192 := n1_; have GW192 := n2_; have GE192 := n3_; clear n0_ n1_ n2_ n3_; clear hb hbox hg))
 (try simp only [Act.put, List.setIfInBounds_toArray, List.set_cons_zero, List.set_cons_succ])
 go_cut [15] (fun v15 wc => ∃ (kq : Nat) (x15_1 : Bool), v15 = .bool x15_1 ∧ Aside0 (middenref16_objects.j0 kq x15_1 l0_0 l0_1 l0_2 l0_3 l0_4 a0_5 = some r) ∧ Aside0 (kq ≤ k) ∧ Aside0 (wc.heap[gb192]? = some (.cells #[(.slice A0_0 l0_0.length c0_0), (.slice A0_1 l0_1.length c0_1), (.slice A0_2 l0_2.length c0_2), (.slice A0_3 l0_3.length c0_3), (.slice A0_4 l0_4.length c0_4), .int .u64 a0_5] 27 (0, 0))) ∧ Aside0 (Below w.heap.size w wc))
 case first =>
  have H := HC2.out
  clear HC2
  by_cases c4 : a0_5 < 1
  ·rw [if_pos c4] at H
   have c4b0 : decide (a0_5 < 1) = true := decide_eq_true c4
   clear c4
   (first | rw [c4b0] | (simp only [i64_w, i32_w]; rw [c4b0]) | skip)
   have H' := Aside0.mk H
   clear H
   have hcz5_0 : w3.cell? ⟨gb192, 0, none⟩ = some (.slice A0_0 l0_0.length c0_0) := (blk_cell BK192.out 0).trans rfl
   have hcz5_1 : w3.cell? ⟨gb192, 1, none⟩ = some (.slice A0_1 l0_1.length c0_1) := (blk_cell BK192.out 1).trans rfl
   have hcz5_2 : w3.cell? ⟨gb192, 2, none⟩ = some (.slice A0_2 l0_2.length c0_2) := (blk_cell BK192.out 2).trans rfl
   have hcz5_3 : w3.cell? ⟨gb192, 3, none⟩ = some (.slice A0_3 l0_3.length c0_3) := (blk_cell BK192.out 3).trans rfl
   have hcz5_4 : w3.cell? ⟨gb192, 4, none⟩ = some (.slice A0_4 l0_4.length c0_4) := (blk_cell BK192.out 4).trans rfl
   have hcz5_5 : w3.cell? ⟨gb192, 5, none⟩ = some (.int .u64 a0_5) := (blk_cell BK192.out 5).trans rfl
   have hfz5_0 := blk_frozen BK192.out 0
   have hfz5_1 := blk_frozen BK192.out 1
   have hfz5_2 := blk_frozen BK192.out 2
   have hfz5_3 := blk_frozen BK192.out 3
   have hfz5_4 := blk_frozen BK192.out 4
   have hfz5_5 := blk_frozen BK192.out 5
   go_wp2
   go_meet
   case rel => exact ⟨_, (true), (by first | rfl | (simp; done) | (simp [*]; done)), H', ⟨by first | omega | exact Nat.le_refl _⟩, ⟨by (with_reducible repeat (first | refine blk_drewN ?_ _ | refine blk_drew ?_ | refine blk_alloc ?_ _)); exact BK192.out⟩, ⟨by repeat (first | (with_reducible first | exact HB.out | apply below_alloc | apply pw_below_drewN | apply below_drew1 | refine below_set ?_ GE192.out) | exact HB.out)⟩⟩
  ·rw [if_neg c4] at H
   have c4b0 : decide (a0_5 < 1) = false := decide_eq_false c4
   clear c4
   (first | rw [c4b0] | (simp only [i64_w, i32_w]; rw [c4b0]) | skip)
   have H' := Aside0.mk H
   clear H
   have hcz6_0 : w3.cell? ⟨gb192, 0, none⟩ = some (.slice A0_0 l0_0.length c0_0) := (blk_cell BK192.out 0).trans rfl
   have hcz6_1 : w3.cell? ⟨gb192, 1, none⟩ = some (.slice A0_1 l0_1.length c0_1) := (blk_cell BK192.out 1).trans rfl
   have hcz6_2 : w3.cell? ⟨gb192, 2, none⟩ = some (.slice A0_2 l0_2.length c0_2) := (blk_cell BK192.out 2).trans rfl
   have hcz6_3 : w3.cell? ⟨gb192, 3, none⟩ = some (.slice A0_3 l0_3.length c0_3) := (blk_cell BK192.out 3).trans rfl
   have hcz6_4 : w3.cell? ⟨gb192, 4, none⟩ = some (.slice A0_4 l0_4.length c0_4) := (blk_cell BK192.out 4).trans rfl
   have hcz6_5 : w3.cell? ⟨gb192, 5, none⟩ = some (.int .u64 a0_5) := (blk_cell BK192.out 5).trans rfl
   have hfz6_0 := blk_frozen BK192.out 0
   have hfz6_1 := blk_frozen BK192.out 1
   have hfz6_2 := blk_frozen BK192.out 2
   have hfz6_3 := blk_frozen BK192.out 3
   have hfz6_4 := blk_frozen BK192.out 4
   have hfz6_5 := blk_frozen BK192.out 5
   go_wp2
   go_meet
   case rel => exact ⟨_, (decide (a0_5 > 4611686018427387905)), (by first | rfl | (simp; done) | (simp [*]; done)), H', ⟨by first | omega | exact Nat.le_refl _⟩, ⟨by (with_reducible repeat (first | refine blk_drewN ?_ _ | refine blk_drew ?_ | refine blk_alloc ?_ _)); exact BK192.out⟩, ⟨by repeat (first | (with_reducible first | exact HB.out | apply below_alloc | apply pw_below_drewN | apply below_drew1 | refine below_set ?_ GE192.out) | exact HB.out)⟩⟩
 case rest =>
  clear HC2
  try clear p2
  try clear c3
  try clear c4
  try clear c4b0
  try clear hcz5_0
  try clear hcz5_1
  try clear hcz5_2
  try clear hcz5_3
  try clear hcz5_4
  try clear hcz5_5
  try clear hcz6_0
  try clear hcz6_1
  try clear hcz6_2
  try clear hcz6_3
  try clear hcz6_4
  try clear hcz6_5
  try clear hfz5_0
  try clear hfz5_1
  try clear hfz5_2
  try clear hfz5_3
  try clear hfz5_4
  try clear hfz5_5
  try clear hfz6_0
  try clear hfz6_1
  try clear hfz6_2
  try clear hfz6_3
  try clear hfz6_4
  try clear hfz6_5
  obtain ⟨kq, x15_1, rfl, HA, HJ1, BK192, HB⟩ := hcut
  cases kq with
  | zero => exact absurd HA.out (by simp [middenref16_objects.j0])
  | succ kj1 =>
   have H := HA.out
   clear HA
   simp only [middenref16_objects.j0] at H
   by_cases c7 : x15_1 = true
   ·subst c7
    have H1 : (some false) = some r := by rw [if_pos rfl] at H; exact H
    clear H
    have H := H1
    clear H1
    obtain rfl := Option.some.inj H
    go_wp2
    go_ret
    exact ⟨by first | rfl | (simp [errW_none, errW_some] <;> rfl) | (simp [*, errW_none, errW_some] <;> rfl), by repeat (first | (with_reducible first | exact HB.out | apply below_alloc | apply pw_below_drewN | apply below_drew1 | refine below_set ?_ GE192.out) | exact HB.out)⟩
   ·replace c7 := Bool.eq_false_iff.mpr c7
    subst c7
    have H1 : (middenref16_objects.l0 kj1 0 0 l0_0 l0_1 l0_2 l0_3 l0_4 a0_5) = some r := by rw [if_neg (show ¬ (false = true) by decide)] at H; exact H
    clear H
    have H := H1
    clear H1
    have H' := Aside0.mk H
    clear H
    go_wp2
    go_loopg [3, 4] kj1 (fun kq v3 v4 w' => ∃ (x3_2 : Int) (x4_2 : Int), v3 = .int .u64 x3_2 ∧ v4 = .int .i64 x4_2 ∧ Aside0 (middenref16_objects.l0 kq x3_2 x4_2 l0_0 l0_1 l0_2 l0_3 l0_4 a0_5 = some r) ∧ Aside0 (kq ≤ kj1) ∧ Aside0 (w'.heap[gb192]? = some (.cells #[(.slice A0_0 l0_0.length c0_0), (.slice A0_1 l0_1.length c0_1), (.slice A0_2 l0_2.length c0_2), (.slice A0_3 l0_3.length c0_3), (.slice A0_4 l0_4.length c0_4), .int .u64 a0_5] 27 (0, 0))) ∧ Aside0 (Below w.heap.size w w'))
    case atStart => exact ⟨(0), (0), (by first | rfl | (simp; done) | (simp [*]; done)), (by first | rfl | (simp; done) | (simp [*]; done)), H', ⟨Nat.le_refl _⟩, ⟨by (with_reducible repeat (first | refine blk_drewN ?_ _ | refine blk_drew ?_ | refine blk_alloc ?_ _)); exact BK192.out⟩, ⟨by repeat (first | (with_reducible first | exact HB.out | apply below_alloc | apply pw_below_drewN | apply below_drew1 | refine below_set ?_ GE192.out) | exact HB.out)⟩⟩
    case round =>
     clear H'
     try clear p2
     try clear c3
     try clear c4
     try clear c4b0
     try clear c7
     try clear hcz5_0
     try clear hcz5_1
     try clear hcz5_2
     try clear hcz5_3
     try clear hcz5_4
     try clear hcz5_5
     try clear hcz6_0
     try clear hcz6_1
     try clear hcz6_2
     try clear hcz6_3
     try clear hcz6_4
     try clear hcz6_5
     try clear hfz5_0
     try clear hfz5_1
     try clear hfz5_2
     try clear hfz5_3
     try clear hfz5_4
     try clear hfz5_5
     try clear hfz6_0
     try clear hfz6_1
     try clear hfz6_2
     try clear hfz6_3
     try clear hfz6_4
     try clear hfz6_5
     try clear p2
     obtain ⟨x3_2, x4_2, rfl, rfl, HA, HK2, BK192, HB⟩ := hrel
     cases gk with
     | zero => exact absurd HA.out (by simp [middenref16_objects.l0])
     | succ k2 =>
      have H := HA.out
      clear HA
      simp only [middenref16_objects.l0] at H
      by_cases c8 : x4_2 < (l0_0.length : Int)
      ·rw [if_pos c8] at H
       have c8b0 : decide (x4_2 < (l0_0.length : Int)) = true := decide_eq_true c8
       clear c8
       by_cases c9 : 0 ≤ x4_2
       ·rw [if_pos c9] at H
        have c9b0 : decide (0 ≤ x4_2) = true := decide_eq_true c9
        clear c9
        replace H := Option.bind_eq_some_iff.mp H
        obtain ⟨⟨t195, t196⟩, A100, H⟩ := H
        replace H : (if ((rd_T62 l0_0 x4_2).f0) ≤ x3_2 then (some false) else (if ((rd_T62 l0_0 x4_2).f0) ≥ a0_5 then (some false) else (if t196 = 0 then ((middenref16_between.f k2 ((rd_T62 l0_0 x4_2).f3) 0 (l0_0.length : Int)).bind fun t197 => (if t197 = true then (middenref16_objects.l0 k2 ((rd_T62 l0_0 x4_2).f0) (wrap64 (x4_2 + 1)) l0_0 l0_1 l0_2 l0_3 l0_4 a0_5) else (some false))) else (some false)))) = some r := H
        have A10 := Aside0.mk A100
        clear A100
        by_cases c11 : ((rd_T62 l0_0 x4_2).f0) ≤ x3_2
        ·rw [if_pos c11] at H
         have c11b0 : decide (((rd_T62 l0_0 x4_2).f0) ≤ x3_2) = true := decide_eq_true c11
         clear c11
         obtain rfl := Option.some.inj H
         have hcz12_0 : wr.cell? ⟨gb192, 0, none⟩ = some (.slice A0_0 l0_0.length c0_0) := (blk_cell BK192.out 0).trans rfl
         have hcz12_1 : wr.cell? ⟨gb192, 1, none⟩ = some (.slice A0_1 l0_1.length c0_1) := (blk_cell BK192.out 1).trans rfl
         have hcz12_2 : wr.cell? ⟨gb192, 2, none⟩ = some (.slice A0_2 l0_2.length c0_2) := (blk_cell BK192.out 2).trans rfl
         have hcz12_3 : wr.cell? ⟨gb192, 3, none⟩ = some (.slice A0_3 l0_3.length c0_3) := (blk_cell BK192.out 3).trans rfl
         have hcz12_4 : wr.cell? ⟨gb192, 4, none⟩ = some (.slice A0_4 l0_4.length c0_4) := (blk_cell BK192.out 4).trans rfl
         have hcz12_5 : wr.cell? ⟨gb192, 5, none⟩ = some (.int .u64 a0_5) := (blk_cell BK192.out 5).trans rfl
         have hfz12_0 := blk_frozen BK192.out 0
         have hfz12_1 := blk_frozen BK192.out 1
         have hfz12_2 := blk_frozen BK192.out 2
         have hfz12_3 := blk_frozen BK192.out 3
         have hfz12_4 := blk_frozen BK192.out 4
         have hfz12_5 := blk_frozen BK192.out 5
         have p193 : 0 ≤ (x4_2 : Int) := of_decide_eq_true (by first | (with_reducible assumption) | assumption)
         have q193 : x4_2 < (l0_0.length : Int) := of_decide_eq_true (by first | (with_reducible assumption) | assumption)
         obtain ⟨ad193, A193_3, c193_3, A193_4, c193_4, e193, hx193_0, hx193_1, hx193_2, hx193_3, hx193_4, hl193_3, hi193_3, hl193_4, hi193_4⟩ := at_T62 HR0_0.out x4_2 p193 q193
         cases e193
         replace hx193_0 := (HB.out.cell (World.block_lt_of_cell? w _ hx193_0)).trans hx193_0
         replace hx193_1 := (HB.out.cell (World.block_lt_of_cell? w _ hx193_1)).trans hx193_1
         replace hx193_2 := (HB.out.cell (World.block_lt_of_cell? w _ hx193_2)).trans hx193_2
         replace hx193_3 := (HB.out.cell (World.block_lt_of_cell? w _ hx193_3)).trans hx193_3
         replace hx193_4 := (HB.out.cell (World.block_lt_of_cell? w _ hx193_4)).trans hx193_4
         have HR193_3 := Aside0.mk hi193_3
         have HC193_3 := Aside0.mk hl193_3
         clear hi193_3 hl193_3
         have HR193_4 := Aside0.mk hi193_4
         have HC193_4 := Aside0.mk hl193_4
         clear hi193_4 hl193_4
         replace p193 := eq_true p193
         replace q193 := eq_true q193
         go_wp2_with (first | ((with_reducible refine gate_dst (N := 5) rfl ?_); (try (refine gate_guard (by rfl) ?_; dsimp only)); refine box_event ?hg (N := 5) ?hd (cs := #[.int .u64 0, .int .i64 0, .int .i64 0, .slice none 0 0, .slice none 0 0]) (t := 62) ?hr ?_; (case hd => rfl); (case hg => rfl); (case hr => first | (go_simp; done) | (go_simp; rfl)); intro gb194 hg w13 hbox hb; have n0_ := Aside0.mk (blk_below (g := gb192) (o := .cells #[.slice (some ad193) l0_0.length c0_0, .slice A0_1 l0_1.length c0_1, .slice A0_2 l0_2.length c0_2, .slice A0_3 l0_3.length c0_3, .slice A0_4 l0_4.length c0_4, .int .u64 a0_5] 27 (0, 0)) (by (with_reducible repeat (first | refine blk_drewN ?_ _ | refine blk_drew ?_ | refine blk_alloc ?_ _)); exact BK192.out) hb); have n1_ := Aside0.mk (below_step (by repeat (first | (with_reducible first | exact HB.out | apply below_alloc | apply pw_below_drewN | apply below_drew1 | refine below_set ?_ GE192.out) | exact HB.out)) hb); have n2_ := Aside0.mk (hbox); have n3_ := Aside0.mk ((by rw [hg]; exact (below_size (by repeat (first | (with_reducible first | exact HB.out | apply below_alloc | apply pw_below_drewN | apply below_drew1 | refine below_set ?_ GE192.out) | exact HB.out))) : w.heap.size ≤ gb194)); have n4_ := Aside0.mk ((by rw [hg]; exact (below_size (by repeat (first | (with_reducible first | exact HB.out | apply below_alloc | apply pw_below_drewN | apply below_drew1 | refine below_set ?_ GE192.out) | exact HB.out))) : w.heap.size ≤ gb194)); have n5_ := Aside0.mk ((by rw [hg]; exact Nat.ne_of_lt (blk_lt (g := gb192) (o := .cells #[.slice (some ad193) l0_0.length c0_0, .slice A0_1 l0_1.length c0_1, .slice A0_2 l0_2.length c0_2, .slice A0_3 l0_3.length c0_3, .slice A0_4 l0_4.length c0_4, .int .u64 a0_5] 27 (0, 0)) (by (with_reducible repeat (first | refine blk_drewN ?_ _ | refine blk_drew ?_ | refine blk_alloc ?_ _)); exact BK192.out)) : gb192 ≠ gb194)); have n6_ := Aside0.mk ((by rw [hg]; exact Nat.ne_of_gt (blk_lt (g := gb192) (o := .cells #[.slice (some ad193) l0_0.length c0_0, .slice A0_1 l0_1.length c0_1, .slice A0_2 l0_2.length c0_2, .slice A0_3 l0_3.length c0_3, .slice A0_4 l0_4.length c0_4, .int .u64 a0_5] 27 (0, 0)) (by (with_reducible repeat (first | refine blk_drewN ?_ _ | refine blk_drew ?_ | refine blk_alloc ?_ _)); exact BK192.out)) : gb194 ≠ gb192)); clear BK192; clear HB; have BK192 := n0_; have HB := n1_; have BK194 := n2_; have GW194 := n3_; have GE194 := n4_; have NB192_194 := n5_; have NB194_192 := n6_; clear n0_ n1_ n2_ n3_ n4_ n5_ n6_; clear hb hbox hg; have hnb14 := NB194_192.out; have hnc14 := NB192_194.out; have hcz15_0 : w13.cell? ⟨gb194, 0, none⟩ = some (.int .u64 0) := (blk_cell BK194.out 0).trans rfl; have hcz15_1 : w13.cell? ⟨gb194, 1, none⟩ = some (.int .i64 0) := (blk_cell BK194.out 1).trans rfl; have hcz15_2 : w13.cell? ⟨gb194, 2, none⟩ = some (.int .i64 0) := (blk_cell BK194.out 2).trans rfl; have hcz15_3 : w13.cell? ⟨gb194, 3, none⟩ = some (.slice none 0 0) := (blk_cell BK194.out 3).trans rfl; have hcz15_4 : w13.cell? ⟨gb194, 4, none⟩ = some (.slice none 0 0) := (blk_cell BK194.out 4).trans rfl; have hfz15_0 := blk_frozen BK194.out 0; have hfz15_1 := blk_frozen BK194.out 1; have hfz15_2 := blk_frozen BK194.out 2; have hfz15_3 := blk_frozen BK194.out 3; have hfz15_4 := blk_frozen BK194.out 4) | ((with_reducible refine gate_callee (f := 64) rfl ?_); refine goesL_ (some 40) rfl rfl Tryd.func64 (by kernel_rfl) rfl #[.agg #[.int .u64 0, .int .i64 ((rd_T62 l0_0 x4_2).f1), .int .i64 (((rd_T62 l0_0 x4_2).f3).length : Int), .int .i64 (((rd_T62 l0_0 x4_2).f4).length : Int), .int .i64 0, .int .i64 ((rd_T62 l0_0 x4_2).f2), .bool false]] rfl (by (try simp only [List.map_toArray, List.map_cons, List.map_nil]); first | done | rfl | (simp only [List.length_drop, List.length_take]; rfl)) ?_; (with_reducible refine (middenref2_Pack.calls k2 0 ((rd_T62 l0_0 x4_2).f1) (((rd_T62 l0_0 x4_2).f3).length : Int) (((rd_T62 l0_0 x4_2).f4).length : Int) 0 ((rd_T62 l0_0 x4_2).f2) false t195 t196 _ A10.out).mono ?_); rintro e w16 ⟨rfl, hb⟩; refine ⟨_, rfl, ?_⟩; have n0_ := Aside0.mk (blk_below (g := gb192) (o := .cells #[.slice (some ad193) l0_0.length c0_0, .slice A0_1 l0_1.length c0_1, .slice A0_2 l0_2.length c0_2, .slice A0_3 l0_3.length c0_3, .slice A0_4 l0_4.length c0_4, .int .u64 a0_5] 27 (0, 0)) (by (with_reducible repeat (first | refine blk_drewN ?_ _ | refine blk_drew ?_ | refine blk_alloc ?_ _)); refine blk_far ?_ NB192_194.out _; (with_reducible repeat (first | refine blk_drewN ?_ _ | refine blk_drew ?_ | refine blk_alloc ?_ _)); refine blk_far ?_ NB192_194.out _; (with_reducible repeat (first | refine blk_drewN ?_ _ | refine blk_drew ?_ | refine blk_alloc ?_ _)); refine blk_far ?_ NB192_194.out _; (with_reducible repeat (first | refine blk_drewN ?_ _ | refine blk_drew ?_ | refine blk_alloc ?_ _)); refine blk_far ?_ NB192_194.out _; (with_reducible repeat (first | refine blk_drewN ?_ _ | refine blk_drew ?_ | refine blk_alloc ?_ _)); refine blk_far ?_ NB192_194.out _; (with_reducible repeat (first | refine blk_drewN ?_ _ | refine blk_drew ?_ | refine blk_alloc ?_ _)); exact BK192.out) hb); have n1_ := Aside0.mk (blk_below (g := gb194) (o := .cells #[.int .u64 ((rd_T62 l0_0 x4_2).f0), .int .i64 ((rd_T62 l0_0 x4_2).f1), .int .i64 ((rd_T62 l0_0 x4_2).f2), .slice A193_3 ((rd_T62 l0_0 x4_2).f3).length c193_3, .slice A193_4 ((rd_T62 l0_0 x4_2).f4).length c193_4] 62 (0, 0)) (by (with_reducible repeat (first | refine blk_drewN ?_ _ | refine blk_drew ?_ | refine blk_alloc ?_ _)); refine blk_put (cs := #[.int .u64 ((rd_T62 l0_0 x4_2).f0), .int .i64 ((rd_T62 l0_0 x4_2).f1), .int .i64 ((rd_T62 l0_0 x4_2).f2), .slice A193_3 ((rd_T62 l0_0 x4_2).f3).length c193_3, .slice none 0 0]) ?_ 4 _ rfl; (with_reducible repeat (first | refine blk_drewN ?_ _ | refine blk_drew ?_ | refine blk_alloc ?_ _)); refine blk_put (cs := #[.int .u64 ((rd_T62 l0_0 x4_2).f0), .int .i64 ((rd_T62 l0_0 x4_2).f1), .int .i64 ((rd_T62 l0_0 x4_2).f2), .slice none 0 0, .slice none 0 0]) ?_ 3 _ rfl; (with_reducible repeat (first | refine blk_drewN ?_ _ | refine blk_drew ?_ | refine blk_alloc ?_ _)); refine blk_put (cs := #[.int .u64 ((rd_T62 l0_0 x4_2).f0), .int .i64 ((rd_T62 l0_0 x4_2).f1), .int .i64 0, .slice none 0 0, .slice none 0 0]) ?_ 2 _ rfl; (with_reducible repeat (first | refine blk_drewN ?_ _ | refine blk_drew ?_ | refine blk_alloc ?_ _)); refine blk_put (cs := #[.int .u64 ((rd_T62 l0_0 x4_2).f0), .int .i64 0, .int .i64 0, .slice none 0 0, .slice none 0 0]) ?_ 1 _ rfl; (with_reducible repeat (first | refine blk_drewN ?_ _ | refine blk_drew ?_ | refine blk_alloc ?_ _)); refine blk_put (cs := #[.int .u64 0, .int .i64 0, .int .i64 0, .slice none 0 0, .slice none 0 0]) ?_ 0 _ rfl; (with_reducible repeat (first | refine blk_drewN ?_ _ | refine blk_drew ?_ | refine blk_alloc ?_ _)); exact BK194.out) hb); have n2_ := Aside0.mk (below_step (by repeat (first | (with_reducible first | exact HB.out | apply below_alloc | apply pw_below_drewN | apply below_drew1 | refine below_set ?_ GE192.out | refine below_set ?_ GE194.out) | exact HB.out)) hb); clear BK192; clear BK194; clear HB; have BK192 := n0_; have BK194 := n1_; have HB := n2_; clear n0_ n1_ n2_; (try clear hb); (try clear hb2); (try clear hk); (try clear hi); have hcz17_0 : w16.cell? ⟨gb194, 0, none⟩ = some (.int .u64 ((rd_T62 l0_0 x4_2).f0)) := (blk_cell BK194.out 0).trans rfl; have hcz17_1 : w16.cell? ⟨gb194, 1, none⟩ = some (.int .i64 ((rd_T62 l0_0 x4_2).f1)) := (blk_cell BK194.out 1).trans rfl; have hcz17_2 : w16.cell? ⟨gb194, 2, none⟩ = some (.int .i64 ((rd_T62 l0_0 x4_2).f2)) := (blk_cell BK194.out 2).trans rfl; have hcz17_3 : w16.cell? ⟨gb194, 3, none⟩ = some (.slice A193_3 ((rd_T62 l0_0 x4_2).f3).length c193_3) := (blk_cell BK194.out 3).trans rfl; have hcz17_4 : w16.cell? ⟨gb194, 4, none⟩ = some (.slice A193_4 ((rd_T62 l0_0 x4_2).f4).length c193_4) := (blk_cell BK194.out 4).trans rfl; have hfz17_0 := blk_frozen BK194.out 0; have hfz17_1 := blk_frozen BK194.out 1; have hfz17_2 := blk_frozen BK194.out 2; have hfz17_3 := blk_frozen BK194.out 3; have hfz17_4 := blk_frozen BK194.out 4))
         go_ret
         exact ⟨by first | rfl | (simp [errW_none, errW_some] <;> rfl) | (simp [*, errW_none, errW_some] <;> rfl), by repeat (first | (with_reducible first | exact HB.out | apply below_alloc | apply pw_below_drewN | apply below_drew1 | refine below_set ?_ GE192.out | refine below_set ?_ GE194.out) | exact HB.out)⟩
        ·rw [if_neg c11] at H
         have c11b0 : decide (((rd_T62 l0_0 x4_2).f0) ≤ x3_2) = false := decide_eq_false c11
         clear c11
         by_cases c18 : ((rd_T62 l0_0 x4_2).f0) ≥ a0_5
         ·rw [if_pos c18] at H
          have c18b0 : decide (a0_5 ≤ ((rd_T62 l0_0 x4_2).f0)) = true := decide_eq_true c18
          clear c18
          obtain rfl := Option.some.inj H
          have hcz19_0 : wr.cell? ⟨gb192, 0, none⟩ = some (.slice A0_0 l0_0.length c0_0) := (blk_cell BK192.out 0).trans rfl
          have hcz19_1 : wr.cell? ⟨gb192, 1, none⟩ = some (.slice A0_1 l0_1.length c0_1) := (blk_cell BK192.out 1).trans rfl
          have hcz19_2 : wr.cell? ⟨gb192, 2, none⟩ = some (.slice A0_2 l0_2.length c0_2) := (blk_cell BK192.out 2).trans rfl
          have hcz19_3 : wr.cell? ⟨gb192, 3, none⟩ = some (.slice A0_3 l0_3.length c0_3) := (blk_cell BK192.out 3).trans rfl
          have hcz19_4 : wr.cell? ⟨gb192, 4, none⟩ = some (.slice A0_4 l0_4.length c0_4) := (blk_cell BK192.out 4).trans rfl
          have hcz19_5 : wr.cell? ⟨gb192, 5, none⟩ = some (.int .u64 a0_5) := (blk_cell BK192.out 5).trans rfl
          have hfz19_0 := blk_frozen BK192.out 0
          have hfz19_1 := blk_frozen BK192.out 1
          have hfz19_2 := blk_frozen BK192.out 2
          have hfz19_3 := blk_frozen BK192.out 3
          have hfz19_4 := blk_frozen BK192.out 4
          have hfz19_5 := blk_frozen BK192.out 5
          have p193 : 0 ≤ (x4_2 : Int) := of_decide_eq_true (by first | (with_reducible assumption) | assumption)
          have q193 : x4_2 < (l0_0.length : Int) := of_decide_eq_true (by first | (with_reducible assumption) | assumption)
          obtain ⟨ad193, A193_3, c193_3, A193_4, c193_4, e193, hx193_0, hx193_1, hx193_2, hx193_3, hx193_4, hl193_3, hi193_3, hl193_4, hi193_4⟩ := at_T62 HR0_0.out x4_2 p193 q193
          cases e193
          replace hx193_0 := (HB.out.cell (World.block_lt_of_cell? w _ hx193_0)).trans hx193_0
          replace hx193_1 := (HB.out.cell (World.block_lt_of_cell? w _ hx193_1)).trans hx193_1
          replace hx193_2 := (HB.out.cell (World.block_lt_of_cell? w _ hx193_2)).trans hx193_2
          replace hx193_3 := (HB.out.cell (World.block_lt_of_cell? w _ hx193_3)).trans hx193_3
          replace hx193_4 := (HB.out.cell (World.block_lt_of_cell? w _ hx193_4)).trans hx193_4
          have HR193_3 := Aside0.mk hi193_3
          have HC193_3 := Aside0.mk hl193_3
          clear hi193_3 hl193_3
          have HR193_4 := Aside0.mk hi193_4
          have HC193_4 := Aside0.mk hl193_4
          clear hi193_4 hl193_4
          replace p193 := eq_true p193
          replace q193 := eq_true q193
          go_wp2_with (first | ((with_reducible refine gate_dst (N := 5) rfl ?_); (try (refine gate_guard (by rfl) ?_; dsimp only)); refine box_event ?hg (N := 5) ?hd (cs := #[.int .u64 0, .int .i64 0, .int .i64 0, .slice none 0 0, .slice none 0 0]) (t := 62) ?hr ?_; (case hd => rfl); (case hg => rfl); (case hr => first | (go_simp; done) | (go_simp; rfl)); intro gb194 hg w20 hbox hb; have n0_ := Aside0.mk (blk_below (g := gb192) (o := .cells #[.slice (some ad193) l0_0.length c0_0, .slice A0_1 l0_1.length c0_1, .slice A0_2 l0_2.length c0_2, .slice A0_3 l0_3.length c0_3, .slice A0_4 l0_4.length c0_4, .int .u64 a0_5] 27 (0, 0)) (by (with_reducible repeat (first | refine blk_drewN ?_ _ | refine blk_drew ?_ | refine blk_alloc ?_ _)); exact BK192.out) hb); have n1_ := Aside0.mk (below_step (by repeat (first | (with_reducible first | exact HB.out | apply below_alloc | apply pw_below_drewN | apply below_drew1 | refine below_set ?_ GE192.out) | exact HB.out)) hb); have n2_ := Aside0.mk (hbox); have n3_ := Aside0.mk ((by rw [hg]; exact (below_size (by repeat (first | (with_reducible first | exact HB.out | apply below_alloc | apply pw_below_drewN | apply below_drew1 | refine below_set ?_ GE192.out) | exact HB.out))) : w.heap.size ≤ gb194)); have n4_ := Aside0.mk ((by rw [hg]; exact (below_size (by repeat (first | (with_reducible first | exact HB.out | apply below_alloc | apply pw_below_drewN | apply below_drew1 | refine below_set ?_ GE192.out) | exact HB.out))) : w.heap.size ≤ gb194)); have n5_ := Aside0.mk ((by rw [hg]; exact Nat.ne_of_lt (blk_lt (g := gb192) (o := .cells #[.slice (some ad193) l0_0.length c0_0, .slice A0_1 l0_1.length c0_1, .slice A0_2 l0_2.length c0_2, .slice A0_3 l0_3.length c0_3, .slice A0_4 l0_4.length c0_4, .int .u64 a0_5] 27 (0, 0)) (by (with_reducible repeat (first | refine blk_drewN ?_ _ | refine blk_drew ?_ | refine blk_alloc ?_ _)); exact BK192.out)) : gb192 ≠ gb194)); have n6_ := Aside0.mk ((by rw [hg]; exact Nat.ne_of_gt (blk_lt (g := gb192) (o := .cells #[.slice (some ad193) l0_0.length c0_0, .slice A0_1 l0_1.length c0_1, .slice A0_2 l0_2.length c0_2, .slice A0_3 l0_3.length c0_3, .slice A0_4 l0_4.length c0_4, .int .u64 a0_5] 27 (0, 0)) (by (with_reducible repeat (first | refine blk_drewN ?_ _ | refine blk_drew ?_ | refine blk_alloc ?_ _)); exact BK192.out)) : gb194 ≠ gb192)); clear BK192; clear HB; have BK192 := n0_; have HB := n1_; have BK194 := n2_; have GW194 := n3_; have GE194 := n4_; have NB192_194 := n5_; have NB194_192 := n6_; clear n0_ n1_ n2_ n3_ n4_ n5_ n6_; clear hb hbox hg; have hnb21 := NB194_192.out; have hnc21 := NB192_194.out; have hcz22_0 : w20.cell? ⟨gb194, 0, none⟩ = some (.int .u64 0) := (blk_cell BK194.out 0).trans rfl; have hcz22_1 : w20.cell? ⟨gb194, 1, none⟩ = some (.int .i64 0) := (blk_cell BK194.out 1).trans rfl; have hcz22_2 : w20.cell? ⟨gb194, 2, none⟩ = some (.int .i64 0) := (blk_cell BK194.out 2).trans rfl; have hcz22_3 : w20.cell? ⟨gb194, 3, none⟩ = some (.slice none 0 0) := (blk_cell BK194.out 3).trans rfl; have hcz22_4 : w20.cell? ⟨gb194, 4, none⟩ = some (.slice none 0 0) := (blk_cell BK194.out 4).trans rfl; have hfz22_0 := blk_frozen BK194.out 0; have hfz22_1 := blk_frozen BK194.out 1; have hfz22_2 := blk_frozen BK194.out 2; have hfz22_3 := blk_frozen BK194.out 3; have hfz22_4 := blk_frozen BK194.out 4) | ((with_reducible refine gate_callee (f := 64) rfl ?_); refine goesL_ (some 40) rfl rfl Tryd.func64 (by kernel_rfl) rfl #[.agg #[.int .u64 0, .int .i64 ((rd_T62 l0_0 x4_2).f1), .int .i64 (((rd_T62 l0_0 x4_2).f3).length : Int), .int .i64 (((rd_T62 l0_0 x4_2).f4).length : Int), .int .i64 0, .int .i64 ((rd_T62 l0_0 x4_2).f2), .bool false]] rfl (by (try simp only [List.map_toArray, List.map_cons, List.map_nil]); first | done | rfl | (simp only [List.length_drop, List.length_take]; rfl)) ?_; (with_reducible refine (middenref2_Pack.calls k2 0 ((rd_T62 l0_0 x4_2).f1) (((rd_T62 l0_0 x4_2).f3).length : Int) (((rd_T62 l0_0 x4_2).f4).length : Int) 0 ((rd_T62 l0_0 x4_2).f2) false t195 t196 _ A10.out).mono ?_); rintro e w23 ⟨rfl, hb⟩; refine ⟨_, rfl, ?_⟩; have n0_ := Aside0.mk (blk_below (g := gb192) (o := .cells #[.slice (some ad193) l0_0.length c0_0, .slice A0_1 l0_1.length c0_1, .slice A0_2 l0_2.length c0_2, .slice A0_3 l0_3.length c0_3, .slice A0_4 l0_4.length c0_4, .int .u64 a0_5] 27 (0, 0)) (by (with_reducible repeat (first | refine blk_drewN ?_ _ | refine blk_drew ?_ | refine blk_alloc ?_ _)); refine blk_far ?_ NB192_194.out _; (with_reducible repeat (first | refine blk_drewN ?_ _ | refine blk_drew ?_ | refine blk_alloc ?_ _)); refine blk_far ?_ NB192_194.out _; (with_reducible repeat (first | refine blk_drewN ?_ _ | refine blk_drew ?_ | refine blk_alloc ?_ _)); refine blk_far ?_ NB192_194.out _; (with_reducible repeat (first | refine blk_drewN ?_ _ | refine blk_drew ?_ | refine blk_alloc ?_ _)); refine blk_far ?_ NB192_194.out _; (with_reducible repeat (first | refine blk_drewN ?_ _ | refine blk_drew ?_ | refine blk_alloc ?_ _)); refine blk_far ?_ NB192_194.out _; (with_reducible repeat (first | refine blk_drewN ?_ _ | refine blk_drew ?_ | refine blk_alloc ?_ _)); exact BK192.out) hb); have n1_ := Aside0.mk (blk_below (g := gb194) (o := .cells #[.int .u64 ((rd_T62 l0_0 x4_2).f0), .int .i64 ((rd_T62 l0_0 x4_2).f1), .int .i64 ((rd_T62 l0_0 x4_2).f2), .slice A193_3 ((rd_T62 l0_0 x4_2).f3).length c193_3, .slice A193_4 ((rd_T62 l0_0 x4_2).f4).length c193_4] 62 (0, 0)) (by (with_reducible repeat (first | refine blk_drewN ?_ _ | refine blk_drew ?_ | refine blk_alloc ?_ _)); refine blk_put (cs := #[.int .u64 ((rd_T62 l0_0 x4_2).f0), .int .i64 ((rd_T62 l0_0 x4_2).f1), .int .i64 ((rd_T62 l0_0 x4_2).f2), .slice A193_3 ((rd_T62 l0_0 x4_2).f3).length c193_3, .slice none 0 0]) ?_ 4 _ rfl; (with_reducible repeat (first | refine blk_drewN ?_ _ | refine blk_drew ?_ | refine blk_alloc ?_ _)); refine blk_put (cs := #[.int .u64 ((rd_T62 l0_0 x4_2).f0), .int .i64 ((rd_T62 l0_0 x4_2).f1), .int .i64 ((rd_T62 l0_0 x4_2).f2), .slice none 0 0, .slice none 0 0]) ?_ 3 _ rfl; (with_reducible repeat (first | refine blk_drewN ?_ _ | refine blk_drew ?_ | refine blk_alloc ?_ _)); refine blk_put (cs := #[.int .u64 ((rd_T62 l0_0 x4_2).f0), .int .i64 ((rd_T62 l0_0 x4_2).f1), .int .i64 0, .slice none 0 0, .slice none 0 0]) ?_ 2 _ rfl; (with_reducible repeat (first | refine blk_drewN ?_ _ | refine blk_drew ?_ | refine blk_alloc ?_ _)); refine blk_put (cs := #[.int .u64 ((rd_T62 l0_0 x4_2).f0), .int .i64 0, .int .i64 0, .slice none 0 0, .slice none 0 0]) ?_ 1 _ rfl; (with_reducible repeat (first | refine blk_drewN ?_ _ | refine blk_drew ?_ | refine blk_alloc ?_ _)); refine blk_put (cs := #[.int .u64 0, .int .i64 0, .int .i64 0, .slice none 0 0, .slice none 0 0]) ?_ 0 _ rfl; (with_reducible repeat (first | refine blk_drewN ?_ _ | refine blk_drew ?_ | refine blk_alloc ?_ _)); exact BK194.out) hb); have n2_ := Aside0.mk (below_step (by repeat (first | (with_reducible first | exact HB.out | apply below_alloc | apply pw_below_drewN | apply below_drew1 | refine below_set ?_ GE192.out | refine below_set ?_ GE194.out) | exact HB.out)) hb); clear BK192; clear BK194; clear HB; have BK192 := n0_; have BK194 := n1_; have HB := n2_; clear n0_ n1_ n2_; (try clear hb); (try clear hb2); (try clear hk); (try clear hi); have hcz24_0 : w23.cell? ⟨gb194, 0, none⟩ = some (.int .u64 ((rd_T62 l0_0 x4_2).f0)) := (blk_cell BK194.out 0).trans rfl; have hcz24_1 : w23.cell? ⟨gb194, 1, none⟩ = some (.int .i64 ((rd_T62 l0_0 x4_2).f1)) := (blk_cell BK194.out 1).trans rfl; have hcz24_2 : w23.cell? ⟨gb194, 2, none⟩ = some (.int .i64 ((rd_T62 l0_0 x4_2).f2)) := (blk_cell BK194.out 2).trans rfl; have hcz24_3 : w23.cell? ⟨gb194, 3, none⟩ = some (.slice A193_3 ((rd_T62 l0_0 x4_2).f3).length c193_3) := (blk_cell BK194.out 3).trans rfl; have hcz24_4 : w23.cell? ⟨gb194, 4, none⟩ = some (.slice A193_4 ((rd_T62 l0_0 x4_2).f4).length c193_4) := (blk_cell BK194.out 4).trans rfl; have hfz24_0 := blk_frozen BK194.out 0; have hfz24_1 := blk_frozen BK194.out 1; have hfz24_2 := blk_frozen BK194.out 2; have hfz24_3 := blk_frozen BK194.out 3; have hfz24_4 := blk_frozen BK194.out 4; have hcz25_0 : w23.cell? ⟨gb192, 0, none⟩ = some (.slice (some ad193) l0_0.length c0_0) := (blk_cell BK192.out 0).trans rfl; have hcz25_1 : w23.cell? ⟨gb192, 1, none⟩ = some (.slice A0_1 l0_1.length c0_1) := (blk_cell BK192.out 1).trans rfl; have hcz25_2 : w23.cell? ⟨gb192, 2, none⟩ = some (.slice A0_2 l0_2.length c0_2) := (blk_cell BK192.out 2).trans rfl; have hcz25_3 : w23.cell? ⟨gb192, 3, none⟩ = some (.slice A0_3 l0_3.length c0_3) := (blk_cell BK192.out 3).trans rfl; have hcz25_4 : w23.cell? ⟨gb192, 4, none⟩ = some (.slice A0_4 l0_4.length c0_4) := (blk_cell BK192.out 4).trans rfl; have hcz25_5 : w23.cell? ⟨gb192, 5, none⟩ = some (.int .u64 a0_5) := (blk_cell BK192.out 5).trans rfl; have hfz25_0 := blk_frozen BK192.out 0; have hfz25_1 := blk_frozen BK192.out 1; have hfz25_2 := blk_frozen BK192.out 2; have hfz25_3 := blk_frozen BK192.out 3; have hfz25_4 := blk_frozen BK192.out 4; have hfz25_5 := blk_frozen BK192.out 5))
          go_ret
          exact ⟨by first | rfl | (simp [errW_none, errW_some] <;> rfl) | (simp [*, errW_none, errW_some] <;> rfl), by repeat (first | (with_reducible first | exact HB.out | apply below_alloc | apply pw_below_drewN | apply below_drew1 | refine below_set ?_ GE192.out | refine below_set ?_ GE194.out) | exact HB.out)⟩
         ·rw [if_neg c18] at H
          have c18b0 : decide (a0_5 ≤ ((rd_T62 l0_0 x4_2).f0)) = false := decide_eq_false c18
          clear c18
          by_cases c26 : t196 = 0
          ·rw [if_pos c26] at H
           have c26b0 : (t196 == 0) = true := beq_iff_eq.mpr c26
           have c26b1 : (t196 != 0) = false := bne_eq_false_iff_eq.mpr c26
           clear c26
           replace H := Option.bind_eq_some_iff.mp H
           obtain ⟨t197, A270, H⟩ := H
           replace H : (if t197 = true then (middenref16_objects.l0 k2 ((rd_T62 l0_0 x4_2).f0) (wrap64 (x4_2 + 1)) l0_0 l0_1 l0_2 l0_3 l0_4 a0_5) else (some false)) = some r := H
           have A27 := Aside0.mk A270
           clear A270
           by_cases c28 : t197 = true
           ·subst c28
            have H1 : (middenref16_objects.l0 k2 ((rd_T62 l0_0 x4_2).f0) (wrap64 (x4_2 + 1)) l0_0 l0_1 l0_2 l0_3 l0_4 a0_5) = some r := by rw [if_pos rfl] at H; exact H
            clear H
            have H := H1
            clear H1
            have H' := Aside0.mk H
            clear H
            have hcz29_0 : wr.cell? ⟨gb192, 0, none⟩ = some (.slice A0_0 l0_0.length c0_0) := (blk_cell BK192.out 0).trans rfl
            have hcz29_1 : wr.cell? ⟨gb192, 1, none⟩ = some (.slice A0_1 l0_1.length c0_1) := (blk_cell BK192.out 1).trans rfl
            have hcz29_2 : wr.cell? ⟨gb192, 2, none⟩ = some (.slice A0_2 l0_2.length c0_2) := (blk_cell BK192.out 2).trans rfl
            have hcz29_3 : wr.cell? ⟨gb192, 3, none⟩ = some (.slice A0_3 l0_3.length c0_3) := (blk_cell BK192.out 3).trans rfl
            have hcz29_4 : wr.cell? ⟨gb192, 4, none⟩ = some (.slice A0_4 l0_4.length c0_4) := (blk_cell BK192.out 4).trans rfl
            have hcz29_5 : wr.cell? ⟨gb192, 5, none⟩ = some (.int .u64 a0_5) := (blk_cell BK192.out 5).trans rfl
            have hfz29_0 := blk_frozen BK192.out 0
            have hfz29_1 := blk_frozen BK192.out 1
            have hfz29_2 := blk_frozen BK192.out 2
            have hfz29_3 := blk_frozen BK192.out 3
            have hfz29_4 := blk_frozen BK192.out 4
            have hfz29_5 := blk_frozen BK192.out 5
            have p193 : 0 ≤ (x4_2 : Int) := of_decide_eq_true (by first | (with_reducible assumption) | assumption)
            have q193 : x4_2 < (l0_0.length : Int) := of_decide_eq_true (by first | (with_reducible assumption) | assumption)
            obtain ⟨ad193, A193_3, c193_3, A193_4, c193_4, e193, hx193_0, hx193_1, hx193_2, hx193_3, hx193_4, hl193_3, hi193_3, hl193_4, hi193_4⟩ := at_T62 HR0_0.out x4_2 p193 q193
            cases e193
            replace hx193_0 := (HB.out.cell (World.block_lt_of_cell? w _ hx193_0)).trans hx193_0
            replace hx193_1 := (HB.out.cell (World.block_lt_of_cell? w _ hx193_1)).trans hx193_1
            replace hx193_2 := (HB.out.cell (World.block_lt_of_cell? w _ hx193_2)).trans hx193_2
            replace hx193_3 := (HB.out.cell (World.block_lt_of_cell? w _ hx193_3)).trans hx193_3
            replace hx193_4 := (HB.out.cell (World.block_lt_of_cell? w _ hx193_4)).trans hx193_4
            have HR193_3 := Aside0.mk hi193_3
            have HC193_3 := Aside0.mk hl193_3
            clear hi193_3 hl193_3
            have HR193_4 := Aside0.mk hi193_4
            have HC193_4 := Aside0.mk hl193_4
            clear hi193_4 hl193_4
            replace p193 := eq_true p193
            replace q193 := eq_true q193
            go_wp2_with (first | ((with_reducible refine gate_dst (N := 5) rfl ?_); (try (refine gate_guard (by rfl) ?_; dsimp only)); refine box_event ?hg (N := 5) ?hd (cs := #[.int .u64 0, .int .i64 0, .int .i64 0, .slice none 0 0, .slice none 0 0]) (t := 62) ?hr ?_; (case hd => rfl); (case hg => rfl); (case hr => first | (go_simp; done) | (go_simp; rfl)); intro gb194 hg w30 hbox hb; have n0_ := Aside0.mk (blk_below (g := gb192) (o := .cells #[.slice (some ad193) l0_0.length c0_0, .slice A0_1 l0_1.length c0_1, .slice A0_2 l0_2.length c0_2, .slice A0_3 l0_3.length c0_3, .slice A0_4 l0_4.length c0_4, .int .u64 a0_5] 27 (0, 0)) (by (with_reducible repeat (first | refine blk_drewN ?_ _ | refine blk_drew ?_ | refine blk_alloc ?_ _)); exact BK192.out) hb); have n1_ := Aside0.mk (below_step (by repeat (first | (with_reducible first | exact HB.out | apply below_alloc | apply pw_below_drewN | apply below_drew1 | refine below_set ?_ GE192.out) | exact HB.out)) hb); have n2_ := Aside0.mk (hbox); have n3_ := Aside0.mk ((by rw [hg]; exact (below_size (by repeat (first | (with_reducible first | exact HB.out | apply below_alloc | apply pw_below_drewN | apply below_drew1 | refine below_set ?_ GE192.out) | exact HB.out))) : w.heap.size ≤ gb194)); have n4_ := Aside0.mk ((by rw [hg]; exact (below_size (by repeat (first | (with_reducible first | exact HB.out | apply below_alloc | apply pw_below_drewN | apply below_drew1 | refine below_set ?_ GE192.out) | exact HB.out))) : w.heap.size ≤ gb194)); have n5_ := Aside0.mk ((by rw [hg]; exact Nat.ne_of_lt (blk_lt (g := gb192) (o := .cells #[.slice (some ad193) l0_0.length c0_0, .slice A0_1 l0_1.length c0_1, .slice A0_2 l0_2.length c0_2, .slice A0_3 l0_3.length c0_3, .slice A0_4 l0_4.length c0_4, .int .u64 a0_5] 27 (0, 0)) (by (with_reducible repeat (first | refine blk_drewN ?_ _ | refine blk_drew ?_ | refine blk_alloc ?_ _)); exact BK192.out)) : gb192 ≠ gb194)); have n6_ := Aside0.mk ((by rw [hg]; exact Nat.ne_of_gt (blk_lt (g := gb192) (o := .cells #[.slice (some ad193) l0_0.length c0_0, .slice A0_1 l0_1.length c0_1, .slice A0_2 l0_2.length c0_2, .slice A0_3 l0_3.length c0_3, .slice A0_4 l0_4.length c0_4, .int .u64 a0_5] 27 (0, 0)) (by (with_reducible repeat (first | refine blk_drewN ?_ _ | refine blk_drew ?_ | refine blk_alloc ?_ _)); exact BK192.out)) : gb194 ≠ gb192)); clear BK192; clear HB; have BK192 := n0_; have HB := n1_; have BK194 := n2_; have GW194 := n3_; have GE194 := n4_; have NB192_194 := n5_; have NB194_192 := n6_; clear n0_ n1_ n2_ n3_ n4_ n5_ n6_; clear hb hbox hg; have hnb31 := NB194_192.out; have hnc31 := NB192_194.out; have hcz32_0 : w30.cell? ⟨gb194, 0, none⟩ = some (.int .u64 0) := (blk_cell BK194.out 0).trans rfl; have hcz32_1 : w30.cell? ⟨gb194, 1, none⟩ = some (.int .i64 0) := (blk_cell BK194.out 1).trans rfl; have hcz32_2 : w30.cell? ⟨gb194, 2, none⟩ = some (.int .i64 0) := (blk_cell BK194.out 2).trans rfl; have hcz32_3 : w30.cell? ⟨gb194, 3, none⟩ = some (.slice none 0 0) := (blk_cell BK194.out 3).trans rfl; have hcz32_4 : w30.cell? ⟨gb194, 4, none⟩ = some (.slice none 0 0) := (blk_cell BK194.out 4).trans rfl; have hfz32_0 := blk_frozen BK194.out 0; have hfz32_1 := blk_frozen BK194.out 1; have hfz32_2 := blk_frozen BK194.out 2; have hfz32_3 := blk_frozen BK194.out 3; have hfz32_4 := blk_frozen BK194.out 4) | ((with_reducible refine gate_callee (f := 64) rfl ?_); refine goesL_ (some 40) rfl rfl Tryd.func64 (by kernel_rfl) rfl #[.agg #[.int .u64 0, .int .i64 ((rd_T62 l0_0 x4_2).f1), .int .i64 (((rd_T62 l0_0 x4_2).f3).length : Int), .int .i64 (((rd_T62 l0_0 x4_2).f4).length : Int), .int .i64 0, .int .i64 ((rd_T62 l0_0 x4_2).f2), .bool false]] rfl (by (try simp only [List.map_toArray, List.map_cons, List.map_nil]); first | done | rfl | (simp only [List.length_drop, List.length_take]; rfl)) ?_; (with_reducible refine (middenref2_Pack.calls k2 0 ((rd_T62 l0_0 x4_2).f1) (((rd_T62 l0_0 x4_2).f3).length : Int) (((rd_T62 l0_0 x4_2).f4).length : Int) 0 ((rd_T62 l0_0 x4_2).f2) false t195 t196 _ A10.out).mono ?_); rintro e w33 ⟨rfl, hb⟩; refine ⟨_, rfl, ?_⟩; have n0_ := Aside0.mk (blk_below (g := gb192) (o := .cells #[.slice (some ad193) l0_0.length c0_0, .slice A0_1 l0_1.length c0_1, .slice A0_2 l0_2.length c0_2, .slice A0_3 l0_3.length c0_3, .slice A0_4 l0_4.length c0_4, .int .u64 a0_5] 27 (0, 0)) (by (with_reducible repeat (first | refine blk_drewN ?_ _ | refine blk_drew ?_ | refine blk_alloc ?_ _)); refine blk_far ?_ NB192_194.out _; (with_reducible repeat (first | refine blk_drewN ?_ _ | refine blk_drew ?_ | refine blk_alloc ?_ _)); refine blk_far ?_ NB192_194.out _; (with_reducible repeat (first | refine blk_drewN ?_ _ | refine blk_drew ?_ | refine blk_alloc ?_ _)); refine blk_far ?_ NB192_194.out _; (with_reducible repeat (first | refine blk_drewN ?_ _ | refine blk_drew ?_ | refine blk_alloc ?_ _)); refine blk_far ?_ NB192_194.out _; (with_reducible repeat (first | refine blk_drewN ?_ _ | refine blk_drew ?_ | refine blk_alloc ?_ _)); refine blk_far ?_ NB192_194.out _; (with_reducible repeat (first | refine blk_drewN ?_ _ | refine blk_drew ?_ | refine blk_alloc ?_ _)); exact BK192.out) hb); have n1_ := Aside0.mk (blk_below (g := gb194) (o := .cells #[.int .u64 ((rd_T62 l0_0 x4_2).f0), .int .i64 ((rd_T62 l0_0 x4_2).f1), .int .i64 ((rd_T62 l0_0 x4_2).f2), .slice A193_3 ((rd_T62 l0_0 x4_2).f3).length c193_3, .slice A193_4 ((rd_T62 l0_0 x4_2).f4).length c193_4] 62 (0, 0)) (by (with_reducible repeat (first | refine blk_drewN ?_ _ | refine blk_drew ?_ | refine blk_alloc ?_ _)); refine blk_put (cs := #[.int .u64 ((rd_T62 l0_0 x4_2).f0), .int .i64 ((rd_T62 l0_0 x4_2).f1), .int .i64 ((rd_T62 l0_0 x4_2).f2), .slice A193_3 ((rd_T62 l0_0 x4_2).f3).length c193_3, .slice none 0 0]) ?_ 4 _ rfl; (with_reducible repeat (first | refine blk_drewN ?_ _ | refine blk_drew ?_ | refine blk_alloc ?_ _)); refine blk_put (cs := #[.int .u64 ((rd_T62 l0_0 x4_2).f0), .int .i64 ((rd_T62 l0_0 x4_2).f1), .int .i64 ((rd_T62 l0_0 x4_2).f2), .slice none 0 0, .slice none 0 0]) ?_ 3 _ rfl; (with_reducible repeat (first | refine blk_drewN ?_ _ | refine blk_drew ?_ | refine blk_alloc ?_ _)); refine blk_put (cs := #[.int .u64 ((rd_T62 l0_0 x4_2).f0), .int .i64 ((rd_T62 l0_0 x4_2).f1), .int .i64 0, .slice none 0 0, .slice none 0 0]) ?_ 2 _ rfl; (with_reducible repeat (first | refine blk_drewN ?_ _ | refine blk_drew ?_ | refine blk_alloc ?_ _)); refine blk_put (cs := #[.int .u64 ((rd_T62 l0_0 x4_2).f0), .int .i64 0, .int .i64 0, .slice none 0 0, .slice none 0 0]) ?_ 1 _ rfl; (with_reducible repeat (first | refine blk_drewN ?_ _ | refine blk_drew ?_ | refine blk_alloc ?_ _)); refine blk_put (cs := #[.int .u64 0, .int .i64 0, .int .i64 0, .slice none 0 0, .slice none 0 0]) ?_ 0 _ rfl; (with_reducible repeat (first | refine blk_drewN ?_ _ | refine blk_drew ?_ | refine blk_alloc ?_ _)); exact BK194.out) hb); have n2_ := Aside0.mk (below_step (by repeat (first | (with_reducible first | exact HB.out | apply below_alloc | apply pw_below_drewN | apply below_drew1 | refine below_set ?_ GE192.out | refine below_set ?_ GE194.out) | exact HB.out)) hb); clear BK192; clear BK194; clear HB; have BK192 := n0_; have BK194 := n1_; have HB := n2_; clear n0_ n1_ n2_; (try clear hb); (try clear hb2); (try clear hk); (try clear hi); have hcz34_0 : w33.cell? ⟨gb194, 0, none⟩ = some (.int .u64 ((rd_T62 l0_0 x4_2).f0)) := (blk_cell BK194.out 0).trans rfl; have hcz34_1 : w33.cell? ⟨gb194, 1, none⟩ = some (.int .i64 ((rd_T62 l0_0 x4_2).f1)) := (blk_cell BK194.out 1).trans rfl; have hcz34_2 : w33.cell? ⟨gb194, 2, none⟩ = some (.int .i64 ((rd_T62 l0_0 x4_2).f2)) := (blk_cell BK194.out 2).trans rfl; have hcz34_3 : w33.cell? ⟨gb194, 3, none⟩ = some (.slice A193_3 ((rd_T62 l0_0 x4_2).f3).length c193_3) := (blk_cell BK194.out 3).trans rfl; have hcz34_4 : w33.cell? ⟨gb194, 4, none⟩ = some (.slice A193_4 ((rd_T62 l0_0 x4_2).f4).length c193_4) := (blk_cell BK194.out 4).trans rfl; have hfz34_0 := blk_frozen BK194.out 0; have hfz34_1 := blk_frozen BK194.out 1; have hfz34_2 := blk_frozen BK194.out 2; have hfz34_3 := blk_frozen BK194.out 3; have hfz34_4 := blk_frozen BK194.out 4; have hcz35_0 : w33.cell? ⟨gb192, 0, none⟩ = some (.slice (some ad193) l0_0.length c0_0) := (blk_cell BK192.out 0).trans rfl; have hcz35_1 : w33.cell? ⟨gb192, 1, none⟩ = some (.slice A0_1 l0_1.length c0_1) := (blk_cell BK192.out 1).trans rfl; have hcz35_2 : w33.cell? ⟨gb192, 2, none⟩ = some (.slice A0_2 l0_2.length c0_2) := (blk_cell BK192.out 2).trans rfl; have hcz35_3 : w33.cell? ⟨gb192, 3, none⟩ = some (.slice A0_3 l0_3.length c0_3) := (blk_cell BK192.out 3).trans rfl; have hcz35_4 : w33.cell? ⟨gb192, 4, none⟩ = some (.slice A0_4 l0_4.length c0_4) := (blk_cell BK192.out 4).trans rfl; have hcz35_5 : w33.cell? ⟨gb192, 5, none⟩ = some (.int .u64 a0_5) := (blk_cell BK192.out 5).trans rfl; have hfz35_0 := blk_frozen BK192.out 0; have hfz35_1 := blk_frozen BK192.out 1; have hfz35_2 := blk_frozen BK192.out 2; have hfz35_3 := blk_frozen BK192.out 3; have hfz35_4 := blk_frozen BK192.out 4; have hfz35_5 := blk_frozen BK192.out 5) | (go_at_call 65; (with_reducible refine (middenref16_between.calls k2 _ _ ((rd_T62 l0_0 x4_2).f3) 0 (l0_0.length : Int) true _ ?side1 ?side2 A27.out).mono ?_); (case side1 => repeat (first | exact (Kd.C_below HR193_3.out HB.out) | (with_reducible refine Kd.C_alloc ?_ _) | (with_reducible refine Kd.C_drewN ?_ _) | (with_reducible refine Kd.C_drew ?_))); (case side2 => exact HC193_3.out); rintro e w' ⟨rfl, ⟨nd, rfl⟩⟩))
            go_roundg k2
            case measure => have := HJ1.out; have := HK2.out; omega
            case rel => exact ⟨((rd_T62 l0_0 x4_2).f0), (wrap64 (x4_2 + 1)), (by first | rfl | (simp; done) | (simp [*]; done)), (by first | rfl | (simp; done) | (simp [*]; done)), H', ⟨by have := HJ1.out; have := HK2.out; omega⟩, ⟨by (with_reducible repeat (first | refine blk_drewN ?_ _ | refine blk_drew ?_ | refine blk_alloc ?_ _)); exact BK192.out⟩, ⟨by repeat (first | (with_reducible first | exact HB.out | apply below_alloc | apply pw_below_drewN | apply below_drew1 | refine below_set ?_ GE192.out | refine below_set ?_ GE194.out) | exact HB.out)⟩⟩
           ·replace c28 := Bool.eq_false_iff.mpr c28
            subst c28
            have H1 : (some false) = some r := by rw [if_neg (show ¬ (false = true) by decide)] at H; exact H
            clear H
            have H := H1
            clear H1
            obtain rfl := Option.some.inj H
            have hcz36_0 : wr.cell? ⟨gb192, 0, none⟩ = some (.slice A0_0 l0_0.length c0_0) := (blk_cell BK192.out 0).trans rfl
            have hcz36_1 : wr.cell? ⟨gb192, 1, none⟩ = some (.slice A0_1 l0_1.length c0_1) := (blk_cell BK192.out 1).trans rfl
            have hcz36_2 : wr.cell? ⟨gb192, 2, none⟩ = some (.slice A0_2 l0_2.length c0_2) := (blk_cell BK192.out 2).trans rfl
            have hcz36_3 : wr.cell? ⟨gb192, 3, none⟩ = some (.slice A0_3 l0_3.length c0_3) := (blk_cell BK192.out 3).trans rfl
            have hcz36_4 : wr.cell? ⟨gb192, 4, none⟩ = some (.slice A0_4 l0_4.length c0_4) := (blk_cell BK192.out 4).trans rfl
            have hcz36_5 : wr.cell? ⟨gb192, 5, none⟩ = some (.int .u64 a0_5) := (blk_cell BK192.out 5).trans rfl
            have hfz36_0 := blk_frozen BK192.out 0
            have hfz36_1 := blk_frozen BK192.out 1
            have hfz36_2 := blk_frozen BK192.out 2
            have hfz36_3 := blk_frozen BK192.out 3
            have hfz36_4 := blk_frozen BK192.out 4
            have hfz36_5 := blk_frozen BK192.out 5
            have p193 : 0 ≤ (x4_2 : Int) := of_decide_eq_true (by first | (with_reducible assumption) | assumption)
            have q193 : x4_2 < (l0_0.length : Int) := of_decide_eq_true (by first | (with_reducible assumption) | assumption)
            obtain ⟨ad193, A193_3, c193_3, A193_4, c193_4, e193, hx193_0, hx193_1, hx193_2, hx193_3, hx193_4, hl193_3, hi193_3, hl193_4, hi193_4⟩ := at_T62 HR0_0.out x4_2 p193 q193
            cases e193
            replace hx193_0 := (HB.out.cell (World.block_lt_of_cell? w _ hx193_0)).trans hx193_0
            replace hx193_1 := (HB.out.cell (World.block_lt_of_cell? w _ hx193_1)).trans hx193_1
            replace hx193_2 := (HB.out.cell (World.block_lt_of_cell? w _ hx193_2)).trans hx193_2
            replace hx193_3 := (HB.out.cell (World.block_lt_of_cell? w _ hx193_3)).trans hx193_3
            replace hx193_4 := (HB.out.cell (World.block_lt_of_cell? w _ hx193_4)).trans hx193_4
            have HR193_3 := Aside0.mk hi193_3
            have HC193_3 := Aside0.mk hl193_3
            clear hi193_3 hl193_3
            have HR193_4 := Aside0.mk hi193_4
            have HC193_4 := Aside0.mk hl193_4
            clear hi193_4 hl193_4
            replace p193 := eq_true p193
            replace q193 := eq_true q193
            go_wp2_with (first | ((with_reducible refine gate_dst (N := 5) rfl ?_); (try (refine gate_guard (by rfl) ?_; dsimp only)); refine box_event ?hg (N := 5) ?hd (cs := #[.int .u64 0, .int .i64 0, .int .i64 0, .slice none 0 0, .slice none 0 0]) (t := 62) ?hr ?_; (case hd => rfl); (case hg => rfl); (case hr => first | (go_simp; done) | (go_simp; rfl)); intro gb194 hg w37 hbox hb; have n0_ := Aside0.mk (blk_below (g := gb192) (o := .cells #[.slice (some ad193) l0_0.length c0_0, .slice A0_1 l0_1.length c0_1, .slice A0_2 l0_2.length c0_2, .slice A0_3 l0_3.length c0_3, .slice A0_4 l0_4.length c0_4, .int .u64 a0_5] 27 (0, 0)) (by (with_reducible repeat (first | refine blk_drewN ?_ _ | refine blk_drew ?_ | refine blk_alloc ?_ _)); exact BK192.out) hb); have n1_ := Aside0.mk (below_step (by repeat (first | (with_reducible first | exact HB.out | apply below_alloc | apply pw_below_drewN | apply below_drew1 | refine below_set ?_ GE192.out) | exact HB.out)) hb); have n2_ := Aside0.mk (hbox); have n3_ := Aside0.mk ((by rw [hg]; exact (below_size (by repeat (first | (with_reducible first | exact HB.out | apply below_alloc | apply pw_below_drewN | apply below_drew1 | refine below_set ?_ GE192.out) | exact HB.out))) : w.heap.size ≤ gb194)); have n4_ := Aside0.mk ((by rw [hg]; exact (below_size (by repeat (first | (with_reducible first | exact HB.out | apply below_alloc | apply pw_below_drewN | apply below_drew1 | refine below_set ?_ GE192.out) | exact HB.out))) : w.heap.size ≤ gb194)); have n5_ := Aside0.mk ((by rw [hg]; exact Nat.ne_of_lt (blk_lt (g := gb192) (o := .cells #[.slice (some ad193) l0_0.length c0_0, .slice A0_1 l0_1.length c0_1, .slice A0_2 l0_2.length c0_2, .slice A0_3 l0_3.length c0_3, .slice A0_4 l0_4.length c0_4, .int .u64 a0_5] 27 (0, 0)) (by (with_reducible repeat (first | refine blk_drewN ?_ _ | refine blk_drew ?_ | refine blk_alloc ?_ _)); exact BK192.out)) : gb192 ≠ gb194)); have n6_ := Aside0.mk ((by rw [hg]; exact Nat.ne_of_gt (blk_lt (g := gb192) (o := .cells #[.slice (some ad193) l0_0.length c0_0, .slice A0_1 l0_1.length c0_1, .slice A0_2 l0_2.length c0_2, .slice A0_3 l0_3.length c0_3, .slice A0_4 l0_4.length c0_4, .int .u64 a0_5] 27 (0, 0)) (by (with_reducible repeat (first | refine blk_drewN ?_ _ | refine blk_drew ?_ | refine blk_alloc ?_ _)); exact BK192.out)) : gb194 ≠ gb192)); clear BK192; clear HB; have BK192 := n0_; have HB := n1_; have BK194 := n2_; have GW194 := n3_; have GE194 := n4_; have NB192_194 := n5_; have NB194_192 := n6_; clear n0_ n1_ n2_ n3_ n4_ n5_ n6_; clear hb hbox hg; have hnb38 := NB194_192.out; have hnc38 := NB192_194.out; have hcz39_0 : w37.cell? ⟨gb194, 0, none⟩ = some (.int .u64 0) := (blk_cell BK194.out 0).trans rfl; have hcz39_1 : w37.cell? ⟨gb194, 1, none⟩ = some (.int .i64 0) := (blk_cell BK194.out 1).trans rfl; have hcz39_2 : w37.cell? ⟨gb194, 2, none⟩ = some (.int .i64 0) := (blk_cell BK194.out 2).trans rfl; have hcz39_3 : w37.cell? ⟨gb194, 3, none⟩ = some (.slice none 0 0) := (blk_cell BK194.out 3).trans rfl; have hcz39_4 : w37.cell? ⟨gb194, 4, none⟩ = some (.slice none 0 0) := (blk_cell BK194.out 4).trans rfl; have hfz39_0 := blk_frozen BK194.out 0; have hfz39_1 := blk_frozen BK194.out 1; have hfz39_2 := blk_frozen BK194.out 2; have hfz39_3 := blk_frozen BK194.out 3; have hfz39_4 := blk_frozen BK194.out 4) | ((with_reducible refine gate_callee (f := 64) rfl ?_); refine goesL_ (some 40) rfl rfl Tryd.func64 (by kernel_rfl) rfl #[.agg #[.int .u64 0, .int .i64 ((rd_T62 l0_0 x4_2).f1), .int .i64 (((rd_T62 l0_0 x4_2).f3).length : Int), .int .i64 (((rd_T62 l0_0 x4_2).f4).length : Int), .int .i64 0, .int .i64 ((rd_T62 l0_0 x4_2).f2), .bool false]] rfl (by (try simp only [List.map_toArray, List.map_cons, List.map_nil]); first | done | rfl | (simp only [List.length_drop, List.length_take]; rfl)) ?_; (with_reducible refine (middenref2_Pack.calls k2 0 ((rd_T62 l0_0 x4_2).f1) (((rd_T62 l0_0 x4_2).f3).length : Int) (((rd_T62 l0_0 x4_2).f4).length : Int) 0 ((rd_T62 l0_0 x4_2).f2) false t195 t196 _ A10.out).mono ?_); rintro e w40 ⟨rfl, hb⟩; refine ⟨_, rfl, ?_⟩; have n0_ := Aside0.mk (blk_below (g := gb192) (o := .cells #[.slice (some ad193) l0_0.length c0_0, .slice A0_1 l0_1.length c0_1, .slice A0_2 l0_2.length c0_2, .slice A0_3 l0_3.length c0_3, .slice A0_4 l0_4.length c0_4, .int .u64 a0_5] 27 (0, 0)) (by (with_reducible repeat (first | refine blk_drewN ?_ _ | refine blk_drew ?_ | refine blk_alloc ?_ _)); refine blk_far ?_ NB192_194.out _; (with_reducible repeat (first | refine blk_drewN ?_ _ | refine blk_drew ?_ | refine blk_alloc ?_ _)); refine blk_far ?_ NB192_194.out _; (with_reducible repeat (first | refine blk_drewN ?_ _ | refine blk_drew ?_ | refine blk_alloc ?_ _)); refine blk_far ?_ NB192_194.out _; (with_reducible repeat (first | refine blk_drewN ?_ _ | refine blk_drew ?_ | refine blk_alloc ?_ _)); refine blk_far ?_ NB192_194.out _; (with_reducible repeat (first | refine blk_drewN ?_ _ | refine blk_drew ?_ | refine blk_alloc ?_ _)); refine blk_far ?_ NB192_194.out _; (with_reducible repeat (first | refine blk_drewN ?_ _ | refine blk_drew ?_ | refine blk_alloc ?_ _)); exact BK192.out) hb); have n1_ := Aside0.mk (blk_below (g := gb194) (o := .cells #[.int .u64 ((rd_T62 l0_0 x4_2).f0), .int .i64 ((rd_T62 l0_0 x4_2).f1), .int .i64 ((rd_T62 l0_0 x4_2).f2), .slice A193_3 ((rd_T62 l0_0 x4_2).f3).length c193_3, .slice A193_4 ((rd_T62 l0_0 x4_2).f4).length c193_4] 62 (0, 0)) (by (with_reducible repeat (first | refine blk_drewN ?_ _ | refine blk_drew ?_ | refine blk_alloc ?_ _)); refine blk_put (cs := #[.int .u64 ((rd_T62 l0_0 x4_2).f0), .int .i64 ((rd_T62 l0_0 x4_2).f1), .int .i64 ((rd_T62 l0_0 x4_2).f2), .slice A193_3 ((rd_T62 l0_0 x4_2).f3).length c193_3, .slice none 0 0]) ?_ 4 _ rfl; (with_reducible repeat (first | refine blk_drewN ?_ _ | refine blk_drew ?_ | refine blk_alloc ?_ _)); refine blk_put (cs := #[.int .u64 ((rd_T62 l0_0 x4_2).f0), .int .i64 ((rd_T62 l0_0 x4_2).f1), .int .i64 ((rd_T62 l0_0 x4_2).f2), .slice none 0 0, .slice none 0 0]) ?_ 3 _ rfl; (with_reducible repeat (first | refine blk_drewN ?_ _ | refine blk_drew ?_ | refine blk_alloc ?_ _)); refine blk_put (cs := #[.int .u64 ((rd_T62 l0_0 x4_2).f0), .int .i64 ((rd_T62 l0_0 x4_2).f1), .int .i64 0, .slice none 0 0, .slice none 0 0]) ?_ 2 _ rfl; (with_reducible repeat (first | refine blk_drewN ?_ _ | refine blk_drew ?_ | refine blk_alloc ?_ _)); refine blk_put (cs := #[.int .u64 ((rd_T62 l0_0 x4_2).f0), .int .i64 0, .int .i64 0, .slice none 0 0, .slice none 0 0]) ?_ 1 _ rfl; (with_reducible repeat (first | refine blk_drewN ?_ _ | refine blk_drew ?_ | refine blk_alloc ?_ _)); refine blk_put (cs := #[.int .u64 0, .int .i64 0, .int .i64 0, .slice none 0 0, .slice none 0 0]) ?_ 0 _ rfl; (with_reducible repeat (first | refine blk_drewN ?_ _ | refine blk_drew ?_ | refine blk_alloc ?_ _)); exact BK194.out) hb); have n2_ := Aside0.mk (below_step (by repeat (first | (with_reducible first | exact HB.out | apply below_alloc | apply pw_below_drewN | apply below_drew1 | refine below_set ?_ GE192.out | refine below_set ?_ GE194.out) | exact HB.out)) hb); clear BK192; clear BK194; clear HB; have BK192 := n0_; have BK194 := n1_; have HB := n2_; clear n0_ n1_ n2_; (try clear hb); (try clear hb2); (try clear hk); (try clear hi); have hcz41_0 : w40.cell? ⟨gb194, 0, none⟩ = some (.int .u64 ((rd_T62 l0_0 x4_2).f0)) := (blk_cell BK194.out 0).trans rfl; have hcz41_1 : w40.cell? ⟨gb194, 1, none⟩ = some (.int .i64 ((rd_T62 l0_0 x4_2).f1)) := (blk_cell BK194.out 1).trans rfl; have hcz41_2 : w40.cell? ⟨gb194, 2, none⟩ = some (.int .i64 ((rd_T62 l0_0 x4_2).f2)) := (blk_cell BK194.out 2).trans rfl; have hcz41_3 : w40.cell? ⟨gb194, 3, none⟩ = some (.slice A193_3 ((rd_T62 l0_0 x4_2).f3).length c193_3) := (blk_cell BK194.out 3).trans rfl; have hcz41_4 : w40.cell? ⟨gb194, 4, none⟩ = some (.slice A193_4 ((rd_T62 l0_0 x4_2).f4).length c193_4) := (blk_cell BK194.out 4).trans rfl; have hfz41_0 := blk_frozen BK194.out 0; have hfz41_1 := blk_frozen BK194.out 1; have hfz41_2 := blk_frozen BK194.out 2; have hfz41_3 := blk_frozen BK194.out 3; have hfz41_4 := blk_frozen BK194.out 4; have hcz42_0 : w40.cell? ⟨gb192, 0, none⟩ = some (.slice (some ad193) l0_0.length c0_0) := (blk_cell BK192.out 0).trans rfl; have hcz42_1 : w40.cell? ⟨gb192, 1, none⟩ = some (.slice A0_1 l0_1.length c0_1) := (blk_cell BK192.out 1).trans rfl; have hcz42_2 : w40.cell? ⟨gb192, 2, none⟩ = some (.slice A0_2 l0_2.length c0_2) := (blk_cell BK192.out 2).trans rfl; have hcz42_3 : w40.cell? ⟨gb192, 3, none⟩ = some (.slice A0_3 l0_3.length c0_3) := (blk_cell BK192.out 3).trans rfl; have hcz42_4 : w40.cell? ⟨gb192, 4, none⟩ = some (.slice A0_4 l0_4.length c0_4) := (blk_cell BK192.out 4).trans rfl; have hcz42_5 : w40.cell? ⟨gb192, 5, none⟩ = some (.int .u64 a0_5) := (blk_cell BK192.out 5).trans rfl; have hfz42_0 := blk_frozen BK192.out 0; have hfz42_1 := blk_frozen BK192.out 1; have hfz42_2 := blk_frozen BK192.out 2; have hfz42_3 := blk_frozen BK192.out 3; have hfz42_4 := blk_frozen BK192.out 4; have hfz42_5 := blk_frozen BK192.out 5) | (go_at_call 65; (with_reducible refine (middenref16_between.calls k2 _ _ ((rd_T62 l0_0 x4_2).f3) 0 (l0_0.length : Int) false _ ?side1 ?side2 A27.out).mono ?_); (case side1 => repeat (first | exact (Kd.C_below HR193_3.out HB.out) | (with_reducible refine Kd.C_alloc ?_ _) | (with_reducible refine Kd.C_drewN ?_ _) | (with_reducible refine Kd.C_drew ?_))); (case side2 => exact HC193_3.out); rintro e w' ⟨rfl, ⟨nd, rfl⟩⟩))
            go_ret
            exact ⟨by first | rfl | (simp [errW_none, errW_some] <;> rfl) | (simp [*, errW_none, errW_some] <;> rfl), by repeat (first | (with_reducible first | exact HB.out | apply below_alloc | apply pw_below_drewN | apply below_drew1 | refine below_set ?_ GE192.out | refine below_set ?_ GE194.out) | exact HB.out)⟩
          ·rw [if_neg c26] at H
           have c26b0 : (t196 == 0) = false := beq_eq_false_iff_ne.mpr c26
           have c26b1 : (t196 != 0) = true := bne_iff_ne.mpr c26
           obtain rfl := Option.some.inj H
           have hcz43_0 : wr.cell? ⟨gb192, 0, none⟩ = some (.slice A0_0 l0_0.length c0_0) := (blk_cell BK192.out 0).trans rfl
           have hcz43_1 : wr.cell? ⟨gb192, 1, none⟩ = some (.slice A0_1 l0_1.length c0_1) := (blk_cell BK192.out 1).trans rfl
           have hcz43_2 : wr.cell? ⟨gb192, 2, none⟩ = some (.slice A0_2 l0_2.length c0_2) := (blk_cell BK192.out 2).trans rfl
           have hcz43_3 : wr.cell? ⟨gb192, 3, none⟩ = some (.slice A0_3 l0_3.length c0_3) := (blk_cell BK192.out 3).trans rfl
           have hcz43_4 : wr.cell? ⟨gb192, 4, none⟩ = some (.slice A0_4 l0_4.length c0_4) := (blk_cell BK192.out 4).trans rfl
           have hcz43_5 : wr.cell? ⟨gb192, 5, none⟩ = some (.int .u64 a0_5) := (blk_cell BK192.out 5).trans rfl
           have hfz43_0 := blk_frozen BK192.out 0
           have hfz43_1 := blk_frozen BK192.out 1
           have hfz43_2 := blk_frozen BK192.out 2
           have hfz43_3 := blk_frozen BK192.out 3
           have hfz43_4 := blk_frozen BK192.out 4
           have hfz43_5 := blk_frozen BK192.out 5
           have p193 : 0 ≤ (x4_2 : Int) := of_decide_eq_true (by first | (with_reducible assumption) | assumption)
           have q193 : x4_2 < (l0_0.length : Int) := of_decide_eq_true (by first | (with_reducible assumption) | assumption)
           obtain ⟨ad193, A193_3, c193_3, A193_4, c193_4, e193, hx193_0, hx193_1, hx193_2, hx193_3, hx193_4, hl193_3, hi193_3, hl193_4, hi193_4⟩ := at_T62 HR0_0.out x4_2 p193 q193
           cases e193
           replace hx193_0 := (HB.out.cell (World.block_lt_of_cell? w _ hx193_0)).trans hx193_0
           replace hx193_1 := (HB.out.cell (World.block_lt_of_cell? w _ hx193_1)).trans hx193_1
           replace hx193_2 := (HB.out.cell (World.block_lt_of_cell? w _ hx193_2)).trans hx193_2
           replace hx193_3 := (HB.out.cell (World.block_lt_of_cell? w _ hx193_3)).trans hx193_3
           replace hx193_4 := (HB.out.cell (World.block_lt_of_cell? w _ hx193_4)).trans hx193_4
           have HR193_3 := Aside0.mk hi193_3
           have HC193_3 := Aside0.mk hl193_3
           clear hi193_3 hl193_3
           have HR193_4 := Aside0.mk hi193_4
           have HC193_4 := Aside0.mk hl193_4
           clear hi193_4 hl193_4
           replace p193 := eq_true p193
           replace q193 := eq_true q193
           go_wp2_with (first | ((with_reducible refine gate_dst (N := 5) rfl ?_); (try (refine gate_guard (by rfl) ?_; dsimp only)); refine box_event ?hg (N := 5) ?hd (cs := #[.int .u64 0, .int .i64 0, .int .i64 0, .slice none 0 0, .slice none 0 0]) (t := 62) ?hr ?_; (case hd => rfl); (case hg => rfl); (case hr => first | (go_simp; done) | (go_simp; rfl)); intro gb194 hg w44 hbox hb; have n0_ := Aside0.mk (blk_below (g := gb192) (o := .cells #[.slice (some ad193) l0_0.length c0_0, .slice A0_1 l0_1.length c0_1, .slice A0_2 l0_2.length c0_2, .slice A0_3 l0_3.length c0_3, .slice A0_4 l0_4.length c0_4, .int .u64 a0_5] 27 (0, 0)) (by (with_reducible repeat (first | refine blk_drewN ?_ _ | refine blk_drew ?_ | refine blk_alloc ?_ _)); exact BK192.out) hb); have n1_ := Aside0.mk (below_step (by repeat (first | (with_reducible first | exact HB.out | apply below_alloc | apply pw_below_drewN | apply below_drew1 | refine below_set ?_ GE192.out) | exact HB.out)) hb); have n2_ := Aside0.mk (hbox); have n3_ := Aside0.mk ((by rw [hg]; exact (below_size (by repeat (first | (with_reducible first | exact HB.out | apply below_alloc | apply pw_below_drewN | apply below_drew1 | refine below_set ?_ GE192.out) | exact HB.out))) : w.heap.size ≤ gb194)); have n4_ := Aside0.mk ((by rw [hg]; exact (below_size (by repeat (first | (with_reducible first | exact HB.out | apply below_alloc | apply pw_below_drewN | apply below_drew1 | refine below_set ?_ GE192.out) | exact HB.out))) : w.heap.size ≤ gb194)); have n5_ := Aside0.mk ((by rw [hg]; exact Nat.ne_of_lt (blk_lt (g := gb192) (o := .cells #[.slice (some ad193) l0_0.length c0_0, .slice A0_1 l0_1.length c0_1, .slice A0_2 l0_2.length c0_2, .slice A0_3 l0_3.length c0_3, .slice A0_4 l0_4.length c0_4, .int .u64 a0_5] 27 (0, 0)) (by (with_reducible repeat (first | refine blk_drewN ?_ _ | refine blk_drew ?_ | refine blk_alloc ?_ _)); exact BK192.out)) : gb192 ≠ gb194)); have n6_ := Aside0.mk ((by rw [hg]; exact Nat.ne_of_gt (blk_lt (g := gb192) (o := .cells #[.slice (some ad193) l0_0.length c0_0, .slice A0_1 l0_1.length c0_1, .slice A0_2 l0_2.length c0_2, .slice A0_3 l0_3.length c0_3, .slice A0_4 l0_4.length c0_4, .int .u64 a0_5] 27 (0, 0)) (by (with_reducible repeat (first | refine blk_drewN ?_ _ | refine blk_drew ?_ | refine blk_alloc ?_ _)); exact BK192.out)) : gb194 ≠ gb192)); clear BK192; clear HB; have BK192 := n0_; have HB := n1_; have BK194 := n2_; have GW194 := n3_; have GE194 := n4_; have NB192_194 := n5_; have NB194_192 := n6_; clear n0_ n1_ n2_ n3_ n4_ n5_ n6_; clear hb hbox hg; have hnb45 := NB194_192.out; have hnc45 := NB192_194.out; have hcz46_0 : w44.cell? ⟨gb194, 0, none⟩ = some (.int .u64 0) := (blk_cell BK194.out 0).trans rfl; have hcz46_1 : w44.cell? ⟨gb194, 1, none⟩ = some (.int .i64 0) := (blk_cell BK194.out 1).trans rfl; have hcz46_2 : w44.cell? ⟨gb194, 2, none⟩ = some (.int .i64 0) := (blk_cell BK194.out 2).trans rfl; have hcz46_3 : w44.cell? ⟨gb194, 3, none⟩ = some (.slice none 0 0) := (blk_cell BK194.out 3).trans rfl; have hcz46_4 : w44.cell? ⟨gb194, 4, none⟩ = some (.slice none 0 0) := (blk_cell BK194.out 4).trans rfl; have hfz46_0 := blk_frozen BK194.out 0; have hfz46_1 := blk_frozen BK194.out 1; have hfz46_2 := blk_frozen BK194.out 2; have hfz46_3 := blk_frozen BK194.out 3; have hfz46_4 := blk_frozen BK194.out 4) | ((with_reducible refine gate_callee (f := 64) rfl ?_); refine goesL_ (some 40) rfl rfl Tryd.func64 (by kernel_rfl) rfl #[.agg #[.int .u64 0, .int .i64 ((rd_T62 l0_0 x4_2).f1), .int .i64 (((rd_T62 l0_0 x4_2).f3).length : Int), .int .i64 (((rd_T62 l0_0 x4_2).f4).length : Int), .int .i64 0, .int .i64 ((rd_T62 l0_0 x4_2).f2), .bool false]] rfl (by (try simp only [List.map_toArray, List.map_cons, List.map_nil]); first | done | rfl | (simp only [List.length_drop, List.length_take]; rfl)) ?_; (with_reducible refine (middenref2_Pack.calls k2 0 ((rd_T62 l0_0 x4_2).f1) (((rd_T62 l0_0 x4_2).f3).length : Int) (((rd_T62 l0_0 x4_2).f4).length : Int) 0 ((rd_T62 l0_0 x4_2).f2) false t195 t196 _ A10.out).mono ?_); rintro e w47 ⟨rfl, hb⟩; refine ⟨_, rfl, ?_⟩; have n0_ := Aside0.mk (blk_below (g := gb192) (o := .cells #[.slice (some ad193) l0_0.length c0_0, .slice A0_1 l0_1.length c0_1, .slice A0_2 l0_2.length c0_2, .slice A0_3 l0_3.length c0_3, .slice A0_4 l0_4.length c0_4, .int .u64 a0_5] 27 (0, 0)) (by (with_reducible repeat (first | refine blk_drewN ?_ _ | refine blk_drew ?_ | refine blk_alloc ?_ _)); refine blk_far ?_ NB192_194.out _; (with_reducible repeat (first | refine blk_drewN ?_ _ | refine blk_drew ?_ | refine blk_alloc ?_ _)); refine blk_far ?_ NB192_194.out _; (with_reducible repeat (first | refine blk_drewN ?_ _ | refine blk_drew ?_ | refine blk_alloc ?_ _)); refine blk_far ?_ NB192_194.out _; (with_reducible repeat (first | refine blk_drewN ?_ _ | refine blk_drew ?_ | refine blk_alloc ?_ _)); refine blk_far ?_ NB192_194.out _; (with_reducible repeat (first | refine blk_drewN ?_ _ | refine blk_drew ?_ | refine blk_alloc ?_ _)); refine blk_far ?_ NB192_194.out _; (with_reducible repeat (first | refine blk_drewN ?_ _ | refine blk_drew ?_ | refine blk_alloc ?_ _)); exact BK192.out) hb); have n1_ := Aside0.mk (blk_below (g := gb194) (o := .cells #[.int .u64 ((rd_T62 l0_0 x4_2).f0), .int .i64 ((rd_T62 l0_0 x4_2).f1), .int .i64 ((rd_T62 l0_0 x4_2).f2), .slice A193_3 ((rd_T62 l0_0 x4_2).f3).length c193_3, .slice A193_4 ((rd_T62 l0_0 x4_2).f4).length c193_4] 62 (0, 0)) (by (with_reducible repeat (first | refine blk_drewN ?_ _ | refine blk_drew ?_ | refine blk_alloc ?_ _)); refine blk_put (cs := #[.int .u64 ((rd_T62 l0_0 x4_2).f0), .int .i64 ((rd_T62 l0_0 x4_2).f1), .int .i64 ((rd_T62 l0_0 x4_2).f2), .slice A193_3 ((rd_T62 l0_0 x4_2).f3).length c193_3, .slice none 0 0]) ?_ 4 _ rfl; (with_reducible repeat (first | refine blk_drewN ?_ _ | refine blk_drew ?_ | refine blk_alloc ?_ _)); refine blk_put (cs := #[.int .u64 ((rd_T62 l0_0 x4_2).f0), .int .i64 ((rd_T62 l0_0 x4_2).f1), .int .i64 ((rd_T62 l0_0 x4_2).f2), .slice none 0 0, .slice none 0 0]) ?_ 3 _ rfl; (with_reducible repeat (first | refine blk_drewN ?_ _ | refine blk_drew ?_ | refine blk_alloc ?_ _)); refine blk_put (cs := #[.int .u64 ((rd_T62 l0_0 x4_2).f0), .int .i64 ((rd_T62 l0_0 x4_2).f1), .int .i64 0, .slice none 0 0, .slice none 0 0]) ?_ 2 _ rfl; (with_reducible repeat (first | refine blk_drewN ?_ _ | refine blk_drew ?_ | refine blk_alloc ?_ _)); refine blk_put (cs := #[.int .u64 ((rd_T62 l0_0 x4_2).f0), .int .i64 0, .int .i64 0, .slice none 0 0, .slice none 0 0]) ?_ 1 _ rfl; (with_reducible repeat (first | refine blk_drewN ?_ _ | refine blk_drew ?_ | refine blk_alloc ?_ _)); refine blk_put (cs := #[.int .u64 0, .int .i64 0, .int .i64 0, .slice none 0 0, .slice none 0 0]) ?_ 0 _ rfl; (with_reducible repeat (first | refine blk_drewN ?_ _ | refine blk_drew ?_ | refine blk_alloc ?_ _)); exact BK194.out) hb); have n2_ := Aside0.mk (below_step (by repeat (first | (with_reducible first | exact HB.out | apply below_alloc | apply pw_below_drewN | apply below_drew1 | refine below_set ?_ GE192.out | refine below_set ?_ GE194.out) | exact HB.out)) hb); clear BK192; clear BK194; clear HB; have BK192 := n0_; have BK194 := n1_; have HB := n2_; clear n0_ n1_ n2_; (try clear hb); (try clear hb2); (try clear hk); (try clear hi); have hcz48_0 : w47.cell? ⟨gb194, 0, none⟩ = some (.int .u64 ((rd_T62 l0_0 x4_2).f0)) := (blk_cell BK194.out 0).trans rfl; have hcz48_1 : w47.cell? ⟨gb194, 1, none⟩ = some (.int .i64 ((rd_T62 l0_0 x4_2).f1)) := (blk_cell BK194.out 1).trans rfl; have hcz48_2 : w47.cell? ⟨gb194, 2, none⟩ = some (.int .i64 ((rd_T62 l0_0 x4_2).f2)) := (blk_cell BK194.out 2).trans rfl; have hcz48_3 : w47.cell? ⟨gb194, 3, none⟩ = some (.slice A193_3 ((rd_T62 l0_0 x4_2).f3).length c193_3) := (blk_cell BK194.out 3).trans rfl; have hcz48_4 : w47.cell? ⟨gb194, 4, none⟩ = some (.slice A193_4 ((rd_T62 l0_0 x4_2).f4).length c193_4) := (blk_cell BK194.out 4).trans rfl; have hfz48_0 := blk_frozen BK194.out 0; have hfz48_1 := blk_frozen BK194.out 1; have hfz48_2 := blk_frozen BK194.out 2; have hfz48_3 := blk_frozen BK194.out 3; have hfz48_4 := blk_frozen BK194.out 4; have hcz49_0 : w47.cell? ⟨gb192, 0, none⟩ = some (.slice (some ad193) l0_0.length c0_0) := (blk_cell BK192.out 0).trans rfl; have hcz49_1 : w47.cell? ⟨gb192, 1, none⟩ = some (.slice A0_1 l0_1.length c0_1) := (blk_cell BK192.out 1).trans rfl; have hcz49_2 : w47.cell? ⟨gb192, 2, none⟩ = some (.slice A0_2 l0_2.length c0_2) := (blk_cell BK192.out 2).trans rfl; have hcz49_3 : w47.cell? ⟨gb192, 3, none⟩ = some (.slice A0_3 l0_3.length c0_3) := (blk_cell BK192.out 3).trans rfl; have hcz49_4 : w47.cell? ⟨gb192, 4, none⟩ = some (.slice A0_4 l0_4.length c0_4) := (blk_cell BK192.out 4).trans rfl; have hcz49_5 : w47.cell? ⟨gb192, 5, none⟩ = some (.int .u64 a0_5) := (blk_cell BK192.out 5).trans rfl; have hfz49_0 := blk_frozen BK192.out 0; have hfz49_1 := blk_frozen BK192.out 1; have hfz49_2 := blk_frozen BK192.out 2; have hfz49_3 := blk_frozen BK192.out 3; have hfz49_4 := blk_frozen BK192.out 4; have hfz49_5 := blk_frozen BK192.out 5))
           go_ret
           exact ⟨by first | rfl | (simp [errW_none, errW_some] <;> rfl) | (simp [*, errW_none, errW_some] <;> rfl), by repeat (first | (with_reducible first | exact HB.out | apply below_alloc | apply pw_below_drewN | apply below_drew1 | refine below_set ?_ GE192.out | refine below_set ?_ GE194.out) | exact HB.out)⟩
       ·rw [if_neg c9] at H
        exact absurd H (by simp)
      ·rw [if_neg c8] at H
       have c8b0 : decide (x4_2 < (l0_0.length : Int)) = false := decide_eq_false c8
       clear c8
       obtain rfl := Option.some.inj H
       have hcz50_0 : wr.cell? ⟨gb192, 0, none⟩ = some (.slice A0_0 l0_0.length c0_0) := (blk_cell BK192.out 0).trans rfl
       have hcz50_1 : wr.cell? ⟨gb192, 1, none⟩ = some (.slice A0_1 l0_1.length c0_1) := (blk_cell BK192.out 1).trans rfl
       have hcz50_2 : wr.cell? ⟨gb192, 2, none⟩ = some (.slice A0_2 l0_2.length c0_2) := (blk_cell BK192.out 2).trans rfl
       have hcz50_3 : wr.cell? ⟨gb192, 3, none⟩ = some (.slice A0_3 l0_3.length c0_3) := (blk_cell BK192.out 3).trans rfl
       have hcz50_4 : wr.cell? ⟨gb192, 4, none⟩ = some (.slice A0_4 l0_4.length c0_4) := (blk_cell BK192.out 4).trans rfl
       have hcz50_5 : wr.cell? ⟨gb192, 5, none⟩ = some (.int .u64 a0_5) := (blk_cell BK192.out 5).trans rfl
       have hfz50_0 := blk_frozen BK192.out 0
       have hfz50_1 := blk_frozen BK192.out 1
       have hfz50_2 := blk_frozen BK192.out 2
       have hfz50_3 := blk_frozen BK192.out 3
       have hfz50_4 := blk_frozen BK192.out 4
       have hfz50_5 := blk_frozen BK192.out 5
       go_wp2
       go_ret
       exact ⟨by first | rfl | (simp [errW_none, errW_some] <;> rfl) | (simp [*, errW_none, errW_some] <;> rfl), by repeat (first | (with_reducible first | exact HB.out | apply below_alloc | apply pw_below_drewN | apply below_drew1 | refine below_set ?_ GE192.out) | exact HB.out)⟩

end Go.Proofs.YtihjjkoddphmiaaDoor.PImageRound
