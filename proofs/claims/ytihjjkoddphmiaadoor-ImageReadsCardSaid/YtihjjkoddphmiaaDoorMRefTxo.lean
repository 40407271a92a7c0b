-- Printed by the kit's print.sh, then cut by wip/gen/shake.py: what no text of this claim names is left out.
import Derived.Test.YtihjjkoddphmiaaDoorMPImageRoundx0
import Derived.Test.YtihjjkoddphmiaaDoorMRefTxt
namespace Go.Proofs.YtihjjkoddphmiaaDoor.PImageRound
open Go.RowKit Go.Proofs.YtihjjkoddphmiaaDoorW.PrintWords Go.Proofs.YtihjjkoddphmiaaDoorW.PrintLast Go.Proofs.YtihjjkoddphmiaaDoorW.PrintMore
attribute [local go_sem] max2_int min2_int max_two min_two max_three min_three max_four min_four   -- for this text's walks alone
set_option linter.unusedVariables false
set_option linter.unusedSimpArgs false

theorem info25 : (Tryd.prog.info? 25).map (fun i => (i.zero, i.size, i.bytes)) = some (some (.int .u64 0), 1, 8) := by kernel_rfl
def middenref16_text_ints.l0 : Nat → Int → List Int → Int → Int → List Int → Int → Int → Int → Option (List Int × Int × Int × Int)
 | 0, _, _, _, _, _, _, _, _ => none
 | k + 1, x1, x5, x6, x7, x1000, x1001, x1002, x1003 => if x7 < x6 then (if x1002 = 0 then ((middenref16_text_number.f k x1000 x1001 x1002 x1003).bind fun bt313 => (if x5.length < 17592186044416 then (middenref16_text_ints.l0 k x1 (x5 ++ [wrap64 ((wrap64 (bt313.1)) - x1)]) x6 (wrap64 (x7 + 1)) x1000 bt313.2.1 bt313.2.2.1 bt313.2.2.2) else (none))) else (some (x5, x1001, x1002, x1003))) else (some (x5, x1001, x1002, x1003))
def middenref16_text_ints.f (k : Nat) (s0_0 : List Int) (s0_1 : Int) (s0_2 : Int) (s0_3 : Int) (a1 : Int) : Option (List Int × Int × Int × Int) := (middenref16_text_many.f k s0_0 s0_1 s0_2 s0_3).bind fun bt309 => (middenref16_text_ints.l0 k a1 ([] : List Int) bt309.1 0 s0_0 bt309.2.1 bt309.2.2.1 bt309.2.2.2)
set_option maxHeartbeats 8000000 in
set_option maxRecDepth 100000 in
theorem middenref16_text_ints.calls (k : Nat) (g : Nat) (s0_0 : List Int) (s0_1 : Int) (s0_2 : Int) (s0_3 : Int) (a1 : Int) (r1 : List Int) (r2 : Int) (r3 : Int) (r4 : Int) (w0 w : World) (hI : IsS81 w0 w g s0_0 s0_1 s0_2 s0_3) (hB : Below w0.heap.size w0 w) (h : middenref16_text_ints.f k s0_0 s0_1 s0_2 s0_3 a1 = some (r1, r2, r3, r4)) :
  Calls Tryd.prog 53 #[.pointer (some ⟨g, 0, none⟩), .int .i64 a1] w fun e w' => ∃ v0_ : Value, e = .returned (v0_) ∧ Kd.R (Kd.int .i64) 3 w' w.heap.size (fun _ => True) v0_ r1 ∧ IsS81 w0 w' g s0_0 r2 r3 r4 ∧ Below w0.heap.size w0 w' ∧ KeepBut w w' g none := by
 have HI0 := Aside0.mk hI
 have HK := Aside0.mk (KeepBut.refl w g none)
 have HL := Aside0.mk hB.size
 clear hI
 have HW0 := Aside0.mk hB.size
 have HB := Aside0.mk hB
 clear hB
 have H : ((middenref16_text_many.f k s0_0 s0_1 s0_2 s0_3).bind fun bt309 => (middenref16_text_ints.l0 k a1 ([] : List Int) bt309.1 0 s0_0 bt309.2.1 bt309.2.2.1 bt309.2.2.2)) = some (r1, r2, r3, r4) := h
 clear h
 replace H := Option.bind_eq_some_iff.mp H
 obtain ⟨⟨t309, t310, t311, t312⟩, A30, H⟩ := H
 replace H : (middenref16_text_ints.l0 k a1 ([] : List Int) t309 0 s0_0 t310 t311 t312) = some (r1, r2, r3, r4) := H
 have A3 := Aside0.mk A30
 clear A30
 have H' := Aside0.mk H
 clear H
 go_enter Tryd.func53, Tryd.ntmps53
 go_wp2_with (first | ((with_reducible refine gate_callee (f := 51) rfl ?_); refine goesL_ (some 9) rfl rfl Tryd.func51 (by kernel_rfl) rfl #[.pointer (some ⟨g, 0, none⟩)] rfl (by (try simp only [List.map_toArray, List.map_cons, List.map_nil]); first | done | rfl | (simp only [List.length_drop, List.length_take]; rfl)) ?_; (with_reducible refine (middenref16_text_many.calls k g s0_0 s0_1 s0_2 s0_3 t309 t310 t311 t312 w0 _ ?side1 ?side2 A3.out).mono ?_); (case side1 => repeat (first | (with_reducible first | exact HI0.out | apply IsS81.alloc | apply IsS81.drewN | apply IsS81.drew | apply IsS81.set_1 | apply IsS81.set_2 | apply IsS81.set_3) | exact HI0.out)); (case side2 => repeat (first | (with_reducible first | exact HB.out | apply below_alloc | apply pw_below_drewN | apply below_drew1 | refine below_set ?_ (IsS81.ge HI0.out)) | exact HB.out)); rintro e w4 ⟨rfl, hi, hb, hk⟩; refine ⟨_, rfl, ?_⟩; have n0_ := Aside0.mk (KeepBut.trans (by repeat (first | (with_reducible first | exact HK.out | apply KeepBut.set_ | apply keep_drewN | apply keep_drew | apply keep_alloc) | exact HK.out)) hk (.inl rfl)); have n1_ := Aside0.mk (hb); have n2_ := Aside0.mk (hi); clear HK; clear HB; clear HI0; have HK := n0_; have HB := n1_; have HI0 := n2_; clear n0_ n1_ n2_; (try clear hb); (try clear hb2); (try clear hk); (try clear hi)))
 go_loopg [5, 7] k (fun kq v5 v7 w' => ∃ (x5_1 : List Int) (x7_1 : Int) (x1001_1 : Int) (x1002_1 : Int) (x1003_1 : Int), v7 = .int .i64 x7_1 ∧ Aside0 (middenref16_text_ints.l0 kq a1 x5_1 t309 x7_1 s0_0 x1001_1 x1002_1 x1003_1 = some (r1, r2, r3, r4)) ∧ Aside0 (kq ≤ k) ∧ Aside0 (Kd.R (Kd.int .i64) 3 w' w.heap.size (fun _ => True) v5 x5_1) ∧ Aside0 (IsS81 w0 w' g s0_0 x1001_1 x1002_1 x1003_1) ∧ Aside0 (KeepBut w w' g none) ∧ Aside0 (Below w0.heap.size w0 w'))
 case atStart => exact ⟨(([] : List Int)), (0), (t310), (t311), (t312), (by first | rfl | (simp; done) | (simp [*]; done)), H', ⟨Nat.le_refl _⟩, ⟨by first | exact Kd.R_nil _ _ _ _ _ | exact Kd.N_nil _ _ _ _ _ | exact Kd.V_nil _ _ _ _ _ | exact Kd.Q_nil _ _ _ _ _ | exact Kd.S_nil _ _ _ _ _⟩, ⟨by repeat (first | (with_reducible first | exact HI0.out | apply IsS81.alloc | apply IsS81.drewN | apply IsS81.drew | apply IsS81.set_1 | apply IsS81.set_2 | apply IsS81.set_3) | exact HI0.out)⟩, ⟨by repeat (first | (with_reducible first | exact HK.out | apply KeepBut.set_ | apply keep_drewN | apply keep_drew | apply keep_alloc) | exact HK.out)⟩, ⟨by repeat (first | (with_reducible first | exact HB.out | apply below_alloc | apply pw_below_drewN | apply below_drew1 | refine below_set ?_ (IsS81.ge HI0.out)) | exact HB.out)⟩⟩
 case round =>
  clear H'
  try clear p2
  obtain ⟨x5_1, x7_1, x1001_1, x1002_1, x1003_1, rfl, HA, HK1, HO_5, HI0, HK, HB⟩ := hrel
  cases gk with
  | zero => exact absurd HA.out (by simp [middenref16_text_ints.l0])
  | succ k1 =>
   have H := HA.out
   clear HA
   simp only [middenref16_text_ints.l0] at H
   by_cases c5 : x7_1 < t309
   ·rw [if_pos c5] at H
    have c5b0 : decide (x7_1 < t309) = true := decide_eq_true c5
    clear c5
    by_cases c6 : x1002_1 = 0
    ·rw [if_pos c6] at H
     have c6b0 : (x1002_1 == 0) = true := beq_iff_eq.mpr c6
     have c6b1 : (x1002_1 != 0) = false := bne_eq_false_iff_eq.mpr c6
     clear c6
     replace H := Option.bind_eq_some_iff.mp H
     obtain ⟨⟨t313, t314, t315, t316⟩, A70, H⟩ := H
     replace H : (if x5_1.length < 17592186044416 then (middenref16_text_ints.l0 k1 a1 (x5_1 ++ [wrap64 ((wrap64 (t313)) - a1)]) t309 (wrap64 (x7_1 + 1)) s0_0 t314 t315 t316) else (none)) = some (r1, r2, r3, r4) := H
     have A7 := Aside0.mk A70
     clear A70
     by_cases c8 : x5_1.length < 17592186044416
     ·rw [if_pos c8] at H
      have LMc8 := Aside0.mk c8
      clear c8
      obtain ⟨y317, hy317⟩ : ∃ y_ : List Int, y_ = (x5_1 ++ [wrap64 ((wrap64 (t313)) - a1)]) := ⟨_, rfl⟩
      replace H : (middenref16_text_ints.l0 k1 a1 y317 t309 (wrap64 (x7_1 + 1)) s0_0 t314 t315 t316) = some (r1, r2, r3, r4) := by first | (rw [hy317]; with_reducible exact H) | (have H2_ := (Option.bind_some _ _).symm.trans H; rw [hy317]; with_reducible exact H2_) | (have H2_ := (Option.bind_some _ _).symm.trans H; with_reducible exact H2_) | with_reducible exact H | (rw [hy317]; exact H) | exact H
      have Ny317 := Aside0.mk hy317
      clear hy317
      have H' := Aside0.mk H
      clear H
      obtain ⟨ASz9_0, cSz9_0, HGz9, hgz9, HSz9_0⟩ := HI0.out
      have hcz9_0 := cellS81_0 HGz9
      have hcz9_1 := cellS81_1 HGz9
      have hcz9_2 := cellS81_2 HGz9
      have hcz9_3 := cellS81_3 HGz9
      have hfz9_1 := blk_frozen HGz9 1
      have hfz9_2 := blk_frozen HGz9 2
      have hfz9_3 := blk_frozen HGz9 3
      clear HGz9 hgz9
      go_wp2_with (first | ((with_reducible refine gate_callee (f := 50) rfl ?_); refine goesL_ (some 24) rfl rfl Tryd.func50 (by kernel_rfl) rfl #[.pointer (some ⟨g, 0, none⟩)] rfl (by (try simp only [List.map_toArray, List.map_cons, List.map_nil]); first | done | rfl | (simp only [List.length_drop, List.length_take]; rfl)) ?_; (with_reducible refine (middenref16_text_number.calls k1 g s0_0 x1001_1 x1002_1 x1003_1 t313 t314 t315 t316 w0 _ ?side1 ?side2 A7.out).mono ?_); (case side1 => repeat (first | (with_reducible first | exact HI0.out | apply IsS81.alloc | apply IsS81.drewN | apply IsS81.drew | apply IsS81.set_1 | apply IsS81.set_2 | apply IsS81.set_3) | exact HI0.out)); (case side2 => repeat (first | (with_reducible first | exact HB.out | apply below_alloc | apply pw_below_drewN | apply below_drew1 | refine below_set ?_ (IsS81.ge HI0.out)) | exact HB.out)); rintro e w10 ⟨rfl, hi, hb, hk⟩; refine ⟨_, rfl, ?_⟩; have n0_ := Aside0.mk (Kd.R_mono (Kd.R_keep (IsS81.apart (show IsS81 w0 _ g s0_0 x1001_1 x1002_1 x1003_1 from by repeat (first | (with_reducible first | exact HI0.out | apply IsS81.alloc | apply IsS81.drewN | apply IsS81.drew | apply IsS81.set_1 | apply IsS81.set_2 | apply IsS81.set_3) | exact HI0.out)) (by (with_reducible repeat (first | apply Kd.R_alloc | apply Kd.R_drewN | apply Kd.R_drew)); exact HO_5.out) (by decide)) hk (fun _ h => h.2)) (fun _ h => h.1)); have n1_ := Aside0.mk (KeepBut.trans (by repeat (first | (with_reducible first | exact HK.out | apply KeepBut.set_ | apply keep_drewN | apply keep_drew | apply keep_alloc) | exact HK.out)) hk (.inl rfl)); have n2_ := Aside0.mk (hb); have n3_ := Aside0.mk (hi); clear HO_5; clear HK; clear HB; clear HI0; have HO_5 := n0_; have HK := n1_; have HB := n2_; have HI0 := n3_; clear n0_ n1_ n2_ n3_; (try clear hb); (try clear hb2); (try clear hk); (try clear hi)) | ((with_reducible refine gate_builtin (b := .append) (xs := #[.tmp 22, .tmp 28]) rfl ?_); at_builtin; refine Kd.R_append (Kd.int .i64) w.heap.size rfl (.tmp 22) (.tmp 28) 24 3 (.int .i64 0) 8 rfl Tryd.underlying24 info3 rfl (by decide) (by omega) u5 x5_1 (wrap64 ((wrap64 (t313)) - a1)) [.int .i64 (wrap64 ((wrap64 (t313)) - a1))] (fun _ => True) (fun _ => False) rfl rfl ?aP (fun _ hk => hk.elim) ?aF ?aO (Below.refl _ _) ?aS ?aL ?_; (case aP => exact rfl); (case aF => exact (fun _ _ => trivial)); (case aO => exact (by (with_reducible repeat (first | apply Kd.R_alloc | apply Kd.R_drewN | apply Kd.R_drew)); exact HO_5.out)); (case aS => exact (keep_size (w := w) (g := g) (row := none) (by repeat (first | (with_reducible first | exact HK.out | apply KeepBut.set_ | apply keep_drewN | apply keep_drew | apply keep_alloc) | exact HK.out)))); (case aL => have := LMc8.out; omega); intro v318 w11 ho hb hg hat; rw [← Ny317.out] at ho; have n0_ := Aside0.mk (IsS81.grown (by repeat (first | (with_reducible first | exact HI0.out | apply IsS81.alloc | apply IsS81.drewN | apply IsS81.drew | apply IsS81.set_1 | apply IsS81.set_2 | apply IsS81.set_3) | exact HI0.out)) hg (IsS81.own_ne HI0.out HO_5.out (by decide))); have n1_ := Aside0.mk (below_weaken (by repeat (first | (with_reducible first | exact HB.out | apply below_alloc | apply pw_below_drewN | apply below_drew1 | refine below_set ?_ (IsS81.ge HI0.out)) | exact HB.out)) HL.out hb); have n2_ := Aside0.mk (KeepBut.trans (by repeat (first | (with_reducible first | exact HK.out | apply KeepBut.set_ | apply keep_drewN | apply keep_drew | apply keep_alloc) | exact HK.out)) (KeepBut.of_grown hg g) (Kd.R_base2 HO_5.out)); have n3_ := Aside0.mk (ho); clear HI0; clear HB; clear HK; clear HO_5; have HI0 := n0_; have HB := n1_; have HK := n2_; have HO319 := n3_; clear n0_ n1_ n2_ n3_; clear ho hb hg hat))
      go_roundg k1
      case measure => have := HK1.out; omega
      case rel => exact ⟨(y317), (wrap64 (x7_1 + 1)), (t314), (t315), (t316), (by first | rfl | (simp; done) | (simp [*]; done)), H', ⟨by have := HK1.out; omega⟩, ⟨by (with_reducible repeat (first | apply Kd.R_alloc | apply Kd.R_drewN | apply Kd.R_drew)); exact HO319.out⟩, ⟨by repeat (first | (with_reducible first | exact HI0.out | apply IsS81.alloc | apply IsS81.drewN | apply IsS81.drew | apply IsS81.set_1 | apply IsS81.set_2 | apply IsS81.set_3) | exact HI0.out)⟩, ⟨by repeat (first | (with_reducible first | exact HK.out | apply KeepBut.set_ | apply keep_drewN | apply keep_drew | apply keep_alloc) | exact HK.out)⟩, ⟨by repeat (first | (with_reducible first | exact HB.out | apply below_alloc | apply pw_below_drewN | apply below_drew1 | refine below_set ?_ (IsS81.ge HI0.out)) | exact HB.out)⟩⟩
     ·rw [if_neg c8] at H
      exact absurd H (by simp)
    ·rw [if_neg c6] at H
     have c6b0 : (x1002_1 == 0) = false := beq_eq_false_iff_ne.mpr c6
     have c6b1 : (x1002_1 != 0) = true := bne_iff_ne.mpr c6
     simp only [Option.some.injEq, Prod.mk.injEq] at H
     obtain ⟨rfl, rfl, rfl, rfl⟩ := H
     obtain ⟨ASz12_0, cSz12_0, HGz12, hgz12, HSz12_0⟩ := HI0.out
     have hcz12_0 := cellS81_0 HGz12
     have hcz12_1 := cellS81_1 HGz12
     have hcz12_2 := cellS81_2 HGz12
     have hcz12_3 := cellS81_3 HGz12
     have hfz12_1 := blk_frozen HGz12 1
     have hfz12_2 := blk_frozen HGz12 2
     have hfz12_3 := blk_frozen HGz12 3
     clear HGz12 hgz12
     go_wp2
     go_ret
     exact ⟨_, by first | rfl | (simp [errW_none, errW_some] <;> rfl) | (simp [*, errW_none, errW_some] <;> rfl), by (with_reducible repeat (first | apply Kd.R_alloc | apply Kd.R_drewN | apply Kd.R_drew)); exact HO_5.out, by repeat (first | (with_reducible first | exact HI0.out | apply IsS81.alloc | apply IsS81.drewN | apply IsS81.drew | apply IsS81.set_1 | apply IsS81.set_2 | apply IsS81.set_3) | exact HI0.out), by repeat (first | (with_reducible first | exact HB.out | apply below_alloc | apply pw_below_drewN | apply below_drew1 | refine below_set ?_ (IsS81.ge HI0.out)) | exact HB.out), by repeat (first | (with_reducible first | exact HK.out | apply KeepBut.set_ | apply keep_drewN | apply keep_drew | apply keep_alloc) | exact HK.out)⟩
   ·rw [if_neg c5] at H
    have c5b0 : decide (x7_1 < t309) = false := decide_eq_false c5
    clear c5
    simp only [Option.some.injEq, Prod.mk.injEq] at H
    obtain ⟨rfl, rfl, rfl, rfl⟩ := H
    go_wp2
    go_ret
    exact ⟨_, by first | rfl | (simp [errW_none, errW_some] <;> rfl) | (simp [*, errW_none, errW_some] <;> rfl), by (with_reducible repeat (first | apply Kd.R_alloc | apply Kd.R_drewN | apply Kd.R_drew)); exact HO_5.out, by repeat (first | (with_reducible first | exact HI0.out | apply IsS81.alloc | apply IsS81.drewN | apply IsS81.drew | apply IsS81.set_1 | apply IsS81.set_2 | apply IsS81.set_3) | exact HI0.out), by repeat (first | (with_reducible first | exact HB.out | apply below_alloc | apply pw_below_drewN | apply below_drew1 | refine below_set ?_ (IsS81.ge HI0.out)) | exact HB.out), by repeat (first | (with_reducible first | exact HK.out | apply KeepBut.set_ | apply keep_drewN | apply keep_drew | apply keep_alloc) | exact HK.out)⟩

mutual
def middenref16_text_object.j0 : Nat → Int → Int → Bool → List Int → Int → Int → Int → Int → Int → Int → Option (Int × Int × Int × List Int × List Int × Bool × Int × Int × Int)
 | 0, _, _, _, _, _, _, _, _, _, _ => none
 | k + 1, x1, x7, x8, x1000, x1001, x1002, x1003, x322000, x322001, x322002 => if x8 = true then (middenref16_text_object.j1 k x8 x1000 x1001 x1002 x1003 x322000 x322001 x322002) else (middenref16_text_object.j1 k x8 x1000 x1001 x1002 x1003 (IntKind.u64.wrap (x1 + x7)) x322001 x322002)
def middenref16_text_object.j1 : Nat → Bool → List Int → Int → Int → Int → Int → Int → Int → Option (Int × Int × Int × List Int × List Int × Bool × Int × Int × Int)
 | 0, _, _, _, _, _, _, _, _ => none
 | k + 1, x8, x1000, x1001, x1002, x1003, x322000, x322001, x322002 => (middenref16_text_number.f k x1000 x1001 x1002 x1003).bind fun bt326 => ((middenref16_text_number.f k x1000 bt326.2.1 bt326.2.2.1 bt326.2.2.2).bind fun bt330 => ((middenref16_text_ints.f k x1000 bt330.2.1 bt330.2.2.1 bt330.2.2.2 0).bind fun bt334 => ((middenref16_text_many.f k x1000 bt334.2.1 bt334.2.2.1 bt334.2.2.2).bind fun bt340 => (middenref16_text_object.l0 k x8 bt340.1 0 x1000 bt340.2.1 bt340.2.2.1 bt340.2.2.2 x322000 (wrap64 (bt326.1)) (wrap64 (bt330.1)) bt334.1 ([] : List Int)))))
def middenref16_text_object.l0 : Nat → Bool → Int → Int → List Int → Int → Int → Int → Int → Int → Int → List Int → List Int → Option (Int × Int × Int × List Int × List Int × Bool × Int × Int × Int)
 | 0, _, _, _, _, _, _, _, _, _, _, _, _ => none
 | k + 1, x8, x9, x10, x1000, x1001, x1002, x1003, x322000, x322001, x322002, x322003, x322004 => if x10 < x9 then (if x1002 = 0 then ((middenref16_text_word.f k x1000 x1001 x1002 x1003).bind fun bt344 => (if x322004.length < 17592186044416 then (middenref16_text_object.l0 k x8 x9 (wrap64 (x10 + 1)) x1000 bt344.2.1 bt344.2.2.1 bt344.2.2.2 x322000 x322001 x322002 x322003 (x322004 ++ [bt344.1])) else (none))) else (some (x322000, x322001, x322002, x322003, x322004, x8, x1001, x1002, x1003))) else (some (x322000, x322001, x322002, x322003, x322004, x8, x1001, x1002, x1003))
end
def middenref16_text_object.f (k : Nat) (s0_0 : List Int) (s0_1 : Int) (s0_2 : Int) (s0_3 : Int) (a1 : Int) : Option (Int × Int × Int × List Int × List Int × Bool × Int × Int × Int) := (middenref16_text_number.f k s0_0 s0_1 s0_2 s0_3).bind fun bt322 => (if bt322.1 > 4611686018427387904 then (middenref16_text_object.j0 k a1 bt322.1 true s0_0 bt322.2.1 bt322.2.2.1 bt322.2.2.2 0 0 0) else (middenref16_text_object.j0 k a1 bt322.1 (decide (a1 > (IntKind.u64.wrap (4611686018427387904 - bt322.1)))) s0_0 bt322.2.1 bt322.2.2.1 bt322.2.2.2 0 0 0))
def middenref16_text_object.T13 : Bool × List (List Nat × List Nat) := (true, [([], []), ([0], [0]), ([], []), ([2], [2]), ([3], [3]), ([1, 4, 3], [1, 4]), ([0, 1, 2, 3, 4, 5], []), ([6, 5, 5, 0, 1, 2, 3, 4, 5], [5, 6])])
def middenref16_text_object.B13 : List Nat := [0, 1, 0, 4, 12, 31, 63, 127]
theorem middenref16_text_object.tab13 : rtab .any (opsOf Tryd.f52 13) = middenref16_text_object.T13 := by kernel_rfl
theorem middenref16_text_object.bits13 : waitsOk middenref16_text_object.T13.2 middenref16_text_object.B13 = true := by kernel_rfl
set_option maxHeartbeats 8000000 in
set_option maxRecDepth 100000 in
theorem middenref16_text_object.calls (k : Nat) (g : Nat) (s0_0 : List Int) (s0_1 : Int) (s0_2 : Int) (s0_3 : Int) (a1 : Int) (r1 : Int) (r2 : Int) (r3 : Int) (r4 : List Int) (r5 : List Int) (r6 : Bool) (r7 : Int) (r8 : Int) (r9 : Int) (w0 w : World) (hI : IsS81 w0 w g s0_0 s0_1 s0_2 s0_3) (hB : Below w0.heap.size w0 w) (h : middenref16_text_object.f k s0_0 s0_1 s0_2 s0_3 a1 = some (r1, r2, r3, r4, r5, r6, r7, r8, r9)) :
  Calls Tryd.prog 52 #[.pointer (some ⟨g, 0, none⟩), .int .u64 a1] w fun e w' => ∃ v3_ v4_ : Value, e = .returned (.tuple #[.agg #[.int .u64 r1, .int .i64 r2, .int .i64 r3, v3_, v4_], .bool r6]) ∧ Kd.R (Kd.int .i64) 3 w' w.heap.size (fun _ => True) v3_ r4 ∧ Kd.R (Kd.int .u64) 25 w' w.heap.size (fun _ => True) v4_ r5 ∧ IsS81 w0 w' g s0_0 r7 r8 r9 ∧ Below w0.heap.size w0 w' ∧ KeepBut w w' g none := by
 have hu62 := Tryd.underlying62
 have HI0 := Aside0.mk hI
 have HK := Aside0.mk (KeepBut.refl w g none)
 have HL := Aside0.mk hB.size
 clear hI
 have HW0 := Aside0.mk hB.size
 have HB := Aside0.mk hB
 clear hB
 have H : ((middenref16_text_number.f k s0_0 s0_1 s0_2 s0_3).bind fun bt322 => (if bt322.1 > 4611686018427387904 then (middenref16_text_object.j0 k a1 bt322.1 true s0_0 bt322.2.1 bt322.2.2.1 bt322.2.2.2 0 0 0) else (middenref16_text_object.j0 k a1 bt322.1 (decide (a1 > (IntKind.u64.wrap (4611686018427387904 - bt322.1)))) s0_0 bt322.2.1 bt322.2.2.1 bt322.2.2.2 0 0 0))) = some (r1, r2, r3, r4, r5, r6, r7, r8, r9) := h
 clear h
 replace H := Option.bind_eq_some_iff.mp H
 obtain ⟨⟨t322, t323, t324, t325⟩, A30, H⟩ := H
 replace H : (if t322 > 4611686018427387904 then (middenref16_text_object.j0 k a1 t322 true s0_0 t323 t324 t325 0 0 0) else (middenref16_text_object.j0 k a1 t322 (decide (a1 > (IntKind.u64.wrap (4611686018427387904 - t322)))) s0_0 t323 t324 t325 0 0 0)) = some (r1, r2, r3, r4, r5, r6, r7, r8, r9) := H
 have A3 := Aside0.mk A30
 clear A30
 have HC4 := Aside0.mk H
 clear H
 go_enter Tryd.func52, Tryd.ntmps52
 go_upto_region 3 with (first | ((with_reducible refine gate_dst (N := 4) rfl ?_); refine box_event ?hg (N := 4) ?hd (cs := #[.int .u64 0, .int .i64 0, .int .i64 0, .slice none 0 0, .slice none 0 0]) (t := 62) ?hr ?_; (case hd => rfl); (case hg => rfl); (case hr => first | (go_simp; done) | (go_simp; rfl)); intro gb320 hg w5 hbox hb; have n0_ := Aside0.mk (IsS81.below (by repeat (first | (with_reducible first | exact HI0.out | apply IsS81.alloc | apply IsS81.drewN | apply IsS81.drew | apply IsS81.set_1 | apply IsS81.set_2 | apply IsS81.set_3) | exact HI0.out)) hb); have n1_ := Aside0.mk (KeepBut.trans (by repeat (first | (with_reducible first | exact HK.out | apply KeepBut.set_ | apply keep_drewN | apply keep_drew | apply keep_alloc) | exact HK.out)) (KeepBut.of_below hb g none) (.inl rfl)); have n2_ := Aside0.mk (below_step (by repeat (first | (with_reducible first | exact HB.out | apply below_alloc | apply pw_below_drewN | apply below_drew1 | refine below_set ?_ (IsS81.ge HI0.out)) | exact HB.out)) hb); have n3_ := Aside0.mk (hbox); have n4_ := Aside0.mk ((by rw [hg]; exact (keep_size (w := w) (g := g) (row := none) (by repeat (first | (with_reducible first | exact HK.out | apply KeepBut.set_ | apply keep_drewN | apply keep_drew | apply keep_alloc) | exact HK.out))) : w.heap.size ≤ gb320)); have n5_ := Aside0.mk ((Nat.le_trans HW0.out (by rw [hg]; exact (keep_size (w := w) (g := g) (row := none) (by repeat (first | (with_reducible first | exact HK.out | apply KeepBut.set_ | apply keep_drewN | apply keep_drew | apply keep_alloc) | exact HK.out))) : w.heap.size ≤ gb320) : w0.heap.size ≤ gb320)); have n6_ := Aside0.mk ((by rw [hg]; exact Nat.ne_of_lt (IsS81.lt (show IsS81 w0 _ g s0_0 s0_1 s0_2 s0_3 from by repeat (first | (with_reducible first | exact HI0.out | apply IsS81.alloc | apply IsS81.drewN | apply IsS81.drew | apply IsS81.set_1 | apply IsS81.set_2 | apply IsS81.set_3) | exact HI0.out))) : g ≠ gb320)); have n7_ := Aside0.mk ((by rw [hg]; exact Nat.ne_of_gt (IsS81.lt (show IsS81 w0 _ g s0_0 s0_1 s0_2 s0_3 from by repeat (first | (with_reducible first | exact HI0.out | apply IsS81.alloc | apply IsS81.drewN | apply IsS81.drew | apply IsS81.set_1 | apply IsS81.set_2 | apply IsS81.set_3) | exact HI0.out))) : gb320 ≠ g)); clear HI0; clear HK; clear HB; have HI0 := n0_; have HK := n1_; have HB := n2_; have BK320 := n3_; have GW320 := n4_; have GE320 := n5_; have NB0_320 := n6_; have NB320_0 := n7_; clear n0_ n1_ n2_ n3_ n4_ n5_ n6_ n7_; clear hb hbox hg) | ((with_reducible refine gate_dst (N := 6) rfl ?_); refine box_event ?hg (N := 6) ?hd (cs := #[.int .u64 0, .int .i64 0, .int .i64 0, .slice none 0 0, .slice none 0 0]) (t := 62) ?hr ?_; (case hd => rfl); (case hg => rfl); (case hr => first | (go_simp; done) | (go_simp; rfl)); intro gb321 hg w6 hbox hb; have n0_ := Aside0.mk (IsS81.below (by repeat (first | (with_reducible first | exact HI0.out | apply IsS81.alloc | apply IsS81.drewN | apply IsS81.drew | apply IsS81.set_1 | apply IsS81.set_2 | apply IsS81.set_3 | refine IsS81.far ?_ NB0_320.out _) | exact HI0.out)) hb); have n1_ := Aside0.mk (blk_below (g := gb320) (o := .cells #[.int .u64 0, .int .i64 0, .int .i64 0, .slice none 0 0, .slice none 0 0] 62 (0, 0)) (by (with_reducible repeat (first | refine blk_drewN ?_ _ | refine blk_drew ?_ | refine blk_alloc ?_ _)); exact BK320.out) hb); have n2_ := Aside0.mk (KeepBut.trans (by repeat (first | (with_reducible first | exact HK.out | apply KeepBut.set_ | apply keep_drewN | apply keep_drew | apply keep_alloc | refine keep_far ?_ GW320.out _) | exact HK.out)) (KeepBut.of_below hb g none) (.inl rfl)); have n3_ := Aside0.mk (below_step (by repeat (first | (with_reducible first | exact HB.out | apply below_alloc | apply pw_below_drewN | apply below_drew1 | refine below_set ?_ (IsS81.ge HI0.out) | refine below_set ?_ GE320.out) | exact HB.out)) hb); have n4_ := Aside0.mk (hbox); have n5_ := Aside0.mk ((by rw [hg]; exact (keep_size (w := w) (g := g) (row := none) (by repeat (first | (with_reducible first | exact HK.out | apply KeepBut.set_ | apply keep_drewN | apply keep_drew | apply keep_alloc | refine keep_far ?_ GW320.out _) | exact HK.out))) : w.heap.size ≤ gb321)); have n6_ := Aside0.mk ((Nat.le_trans HW0.out (by rw [hg]; exact (keep_size (w := w) (g := g) (row := none) (by repeat (first | (with_reducible first | exact HK.out | apply KeepBut.set_ | apply keep_drewN | apply keep_drew | apply keep_alloc | refine keep_far ?_ GW320.out _) | exact HK.out))) : w.heap.size ≤ gb321) : w0.heap.size ≤ gb321)); have n7_ := Aside0.mk ((by rw [hg]; exact Nat.ne_of_lt (blk_lt (g := gb320) (o := .cells #[.int .u64 0, .int .i64 0, .int .i64 0, .slice none 0 0, .slice none 0 0] 62 (0, 0)) (by (with_reducible repeat (first | refine blk_drewN ?_ _ | refine blk_drew ?_ | refine blk_alloc ?_ _)); exact BK320.out)) : gb320 ≠ gb321)); have n8_ := Aside0.mk ((by rw [hg]; exact Nat.ne_of_gt (blk_lt (g := gb320) (o := .cells #[.int .u64 0, .int .i64 0, .int .i64 0, .slice none 0 0, .slice none 0 0] 62 (0, 0)) (by (with_reducible repeat (first | refine blk_drewN ?_ _ | refine blk_drew ?_ | refine blk_alloc ?_ _)); exact BK320.out)) : gb321 ≠ gb320)); have n9_ := Aside0.mk ((by rw [hg]; exact Nat.ne_of_lt (IsS81.lt (show IsS81 w0 _ g s0_0 s0_1 s0_2 s0_3 from by repeat (first | (with_reducible first | exact HI0.out | apply IsS81.alloc | apply IsS81.drewN | apply IsS81.drew | apply IsS81.set_1 | apply IsS81.set_2 | apply IsS81.set_3 | refine IsS81.far ?_ NB0_320.out _) | exact HI0.out))) : g ≠ gb321)); have n10_ := Aside0.mk ((by rw [hg]; exact Nat.ne_of_gt (IsS81.lt (show IsS81 w0 _ g s0_0 s0_1 s0_2 s0_3 from by repeat (first | (with_reducible first | exact HI0.out | apply IsS81.alloc | apply IsS81.drewN | apply IsS81.drew | apply IsS81.set_1 | apply IsS81.set_2 | apply IsS81.set_3 | refine IsS81.far ?_ NB0_320.out _) | exact HI0.out))) : gb321 ≠ g)); clear HI0; clear BK320; clear HK; clear HB; have HI0 := n0_; have BK320 := n1_; have HK := n2_; have HB := n3_; have BK321 := n4_; have GW321 := n5_; have GE321 := n6_; have NB320_321 := n7_; have NB321_320 := n8_; have NB0_321 := n9_; have NB321_0 := n10_; clear n0_ n1_ n2_ n3_ n4_ n5_ n6_ n7_ n8_ n9_ n10_; clear hb hbox hg) | ((with_reducible refine gate_callee (f := 50) rfl ?_); refine goesL_ (some 12) rfl rfl Tryd.func50 (by kernel_rfl) rfl #[.pointer (some ⟨g, 0, none⟩)] rfl (by (try simp only [List.map_toArray, List.map_cons, List.map_nil]); first | done | rfl | (simp only [List.length_drop, List.length_take]; rfl)) ?_; (with_reducible refine (middenref16_text_number.calls k g s0_0 s0_1 s0_2 s0_3 t322 t323 t324 t325 w0 _ ?side1 ?side2 A3.out).mono ?_); (case side1 => repeat (first | (with_reducible first | exact HI0.out | apply IsS81.alloc | apply IsS81.drewN | apply IsS81.drew | apply IsS81.set_1 | apply IsS81.set_2 | apply IsS81.set_3 | refine IsS81.far ?_ NB0_320.out _ | refine IsS81.far ?_ NB0_321.out _) | exact HI0.out)); (case side2 => repeat (first | (with_reducible first | exact HB.out | apply below_alloc | apply pw_below_drewN | apply below_drew1 | refine below_set ?_ (IsS81.ge HI0.out) | refine below_set ?_ GE320.out | refine below_set ?_ GE321.out) | exact HB.out)); rintro e w7 ⟨rfl, hi, hb, hk⟩; refine ⟨_, rfl, ?_⟩; have n0_ := Aside0.mk (KeepBut.blk hk (g' := gb320) (o := .cells #[.int .u64 0, .int .i64 0, .int .i64 0, .slice none 0 0, .slice none 0 0] 62 (0, 0)) (by (with_reducible repeat (first | refine blk_drewN ?_ _ | refine blk_drew ?_ | refine blk_alloc ?_ _)); exact BK320.out) NB320_0.out (by simp)); have n1_ := Aside0.mk (KeepBut.blk hk (g' := gb321) (o := .cells #[.int .u64 0, .int .i64 0, .int .i64 0, .slice none 0 0, .slice none 0 0] 62 (0, 0)) (by (with_reducible repeat (first | refine blk_drewN ?_ _ | refine blk_drew ?_ | refine blk_alloc ?_ _)); exact BK321.out) NB321_0.out (by simp)); have n2_ := Aside0.mk (KeepBut.trans (by repeat (first | (with_reducible first | exact HK.out | apply KeepBut.set_ | apply keep_drewN | apply keep_drew | apply keep_alloc | refine keep_far ?_ GW320.out _ | refine keep_far ?_ GW321.out _) | exact HK.out)) hk (.inl rfl)); have n3_ := Aside0.mk (hb); have n4_ := Aside0.mk (hi); clear BK320; clear BK321; clear HK; clear HB; clear HI0; have BK320 := n0_; have BK321 := n1_; have HK := n2_; have HB := n3_; have HI0 := n4_; clear n0_ n1_ n2_ n3_ n4_; (try clear hb); (try clear hb2); (try clear hk); (try clear hi)))
 (try simp only [Act.put, List.setIfInBounds_toArray, List.set_cons_zero, List.set_cons_succ])
 go_cut [8] (fun v8 wc => ∃ (kq : Nat) (x8_3 : Bool), v8 = .bool x8_3 ∧ Aside0 (middenref16_text_object.j0 kq a1 t322 x8_3 s0_0 t323 t324 t325 0 0 0 = some (r1, r2, r3, r4, r5, r6, r7, r8, r9)) ∧ Aside0 (kq ≤ k) ∧ Aside0 (wc.heap[gb320]? = some (.cells #[.int .u64 0, .int .i64 0, .int .i64 0, (.slice none 0 0), (.slice none 0 0)] 62 (0, 0))) ∧ Aside0 (wc.heap[gb321]? = some (.cells #[.int .u64 0, .int .i64 0, .int .i64 0, (.slice none 0 0), (.slice none 0 0)] 62 (0, 0))) ∧ Aside0 (IsS81 w0 wc g s0_0 t323 t324 t325) ∧ Aside0 (KeepBut w wc g none) ∧ Aside0 (Below w0.heap.size w0 wc))
 case first =>
  have H := HC4.out
  clear HC4
  by_cases c8 : t322 > 4611686018427387904
  ·rw [if_pos c8] at H
   have c8b0 : decide (4611686018427387904 < t322) = true := decide_eq_true c8
   clear c8
   (first | rw [c8b0] | (simp only [i64_w, i32_w]; rw [c8b0]) | skip)
   have H' := Aside0.mk H
   clear H
   go_wp2
   go_meet
   case rel => exact ⟨_, (true), (by first | rfl | (simp; done) | (simp [*]; done)), H', ⟨by first | omega | exact Nat.le_refl _⟩, ⟨by (with_reducible repeat (first | refine blk_drewN ?_ _ | refine blk_drew ?_ | refine blk_alloc ?_ _)); exact BK320.out⟩, ⟨by (with_reducible repeat (first | refine blk_drewN ?_ _ | refine blk_drew ?_ | refine blk_alloc ?_ _)); exact BK321.out⟩, ⟨by repeat (first | (with_reducible first | exact HI0.out | apply IsS81.alloc | apply IsS81.drewN | apply IsS81.drew | apply IsS81.set_1 | apply IsS81.set_2 | apply IsS81.set_3 | refine IsS81.far ?_ NB0_320.out _ | refine IsS81.far ?_ NB0_321.out _) | exact HI0.out)⟩, ⟨by repeat (first | (with_reducible first | exact HK.out | apply KeepBut.set_ | apply keep_drewN | apply keep_drew | apply keep_alloc | refine keep_far ?_ GW320.out _ | refine keep_far ?_ GW321.out _) | exact HK.out)⟩, ⟨by repeat (first | (with_reducible first | exact HB.out | apply below_alloc | apply pw_below_drewN | apply below_drew1 | refine below_set ?_ (IsS81.ge HI0.out) | refine below_set ?_ GE320.out | refine below_set ?_ GE321.out) | exact HB.out)⟩⟩
  ·rw [if_neg c8] at H
   have c8b0 : decide (4611686018427387904 < t322) = false := decide_eq_false c8
   clear c8
   (first | rw [c8b0] | (simp only [i64_w, i32_w]; rw [c8b0]) | skip)
   have H' := Aside0.mk H
   clear H
   go_wp2
   go_meet
   case rel => exact ⟨_, (decide (a1 > (IntKind.u64.wrap (4611686018427387904 - t322)))), (by first | rfl | (simp; done) | (simp [*]; done)), H', ⟨by first | omega | exact Nat.le_refl _⟩, ⟨by (with_reducible repeat (first | refine blk_drewN ?_ _ | refine blk_drew ?_ | refine blk_alloc ?_ _)); exact BK320.out⟩, ⟨by (with_reducible repeat (first | refine blk_drewN ?_ _ | refine blk_drew ?_ | refine blk_alloc ?_ _)); exact BK321.out⟩, ⟨by repeat (first | (with_reducible first | exact HI0.out | apply IsS81.alloc | apply IsS81.drewN | apply IsS81.drew | apply IsS81.set_1 | apply IsS81.set_2 | apply IsS81.set_3 | refine IsS81.far ?_ NB0_320.out _ | refine IsS81.far ?_ NB0_321.out _) | exact HI0.out)⟩, ⟨by repeat (first | (with_reducible first | exact HK.out | apply KeepBut.set_ | apply keep_drewN | apply keep_drew | apply keep_alloc | refine keep_far ?_ GW320.out _ | refine keep_far ?_ GW321.out _) | exact HK.out)⟩, ⟨by repeat (first | (with_reducible first | exact HB.out | apply below_alloc | apply pw_below_drewN | apply below_drew1 | refine below_set ?_ (IsS81.ge HI0.out) | refine below_set ?_ GE320.out | refine below_set ?_ GE321.out) | exact HB.out)⟩⟩
 case rest =>
  clear HC4
  try clear p2
  try clear c5
  try clear c8
  try clear c8b0
  obtain ⟨kq, x8_3, rfl, HA, HJ3, BK320, BK321, HI0, HK, HB⟩ := hcut
  cases kq with
  | zero => exact absurd HA.out (by simp [middenref16_text_object.j0])
  | succ kj3 =>
   have H := HA.out
   clear HA
   simp only [middenref16_text_object.j0] at H
   have HC9 := Aside0.mk H
   clear H
   go_upto_if 22 with (fail)
   go_cut [] (fun wc => ∃ (kq : Nat) (x322000_8 : Int), Aside0 (middenref16_text_object.j1 kq x8_3 s0_0 t323 t324 t325 x322000_8 0 0 = some (r1, r2, r3, r4, r5, r6, r7, r8, r9)) ∧ Aside0 (kq ≤ kj3) ∧ Aside0 (wc.heap[gb320]? = some (.cells #[.int .u64 0, .int .i64 0, .int .i64 0, (.slice none 0 0), (.slice none 0 0)] 62 (0, 0))) ∧ Aside0 (wc.heap[gb321]? = some (.cells #[.int .u64 x322000_8, .int .i64 0, .int .i64 0, (.slice none 0 0), (.slice none 0 0)] 62 (0, 0))) ∧ Aside0 (IsS81 w0 wc g s0_0 t323 t324 t325) ∧ Aside0 (KeepBut w wc g none) ∧ Aside0 (Below w0.heap.size w0 wc))
   case first =>
    have H := HC9.out
    clear HC9
    by_cases c10 : x8_3 = true
    ·subst c10
     have H1 : (middenref16_text_object.j1 kj3 true s0_0 t323 t324 t325 0 0 0) = some (r1, r2, r3, r4, r5, r6, r7, r8, r9) := by rw [if_pos rfl] at H; exact H
     clear H
     have H := H1
     clear H1
     have H' := Aside0.mk H
     clear H
     go_wp2
     go_meet
     case rel => exact ⟨_, (0), H', ⟨by have := HJ3.out; first | omega | exact Nat.le_refl _⟩, ⟨by (with_reducible repeat (first | refine blk_drewN ?_ _ | refine blk_drew ?_ | refine blk_alloc ?_ _)); exact BK320.out⟩, ⟨by (with_reducible repeat (first | refine blk_drewN ?_ _ | refine blk_drew ?_ | refine blk_alloc ?_ _)); exact BK321.out⟩, ⟨by repeat (first | (with_reducible first | exact HI0.out | apply IsS81.alloc | apply IsS81.drewN | apply IsS81.drew | apply IsS81.set_1 | apply IsS81.set_2 | apply IsS81.set_3 | refine IsS81.far ?_ NB0_320.out _ | refine IsS81.far ?_ NB0_321.out _) | exact HI0.out)⟩, ⟨by repeat (first | (with_reducible first | exact HK.out | apply KeepBut.set_ | apply keep_drewN | apply keep_drew | apply keep_alloc | refine keep_far ?_ GW320.out _ | refine keep_far ?_ GW321.out _) | exact HK.out)⟩, ⟨by repeat (first | (with_reducible first | exact HB.out | apply below_alloc | apply pw_below_drewN | apply below_drew1 | refine below_set ?_ (IsS81.ge HI0.out) | refine below_set ?_ GE320.out | refine below_set ?_ GE321.out) | exact HB.out)⟩⟩
    ·replace c10 := Bool.eq_false_iff.mpr c10
     subst c10
     have H1 : (middenref16_text_object.j1 kj3 false s0_0 t323 t324 t325 (IntKind.u64.wrap (a1 + t322)) 0 0) = some (r1, r2, r3, r4, r5, r6, r7, r8, r9) := by rw [if_neg (show ¬ (false = true) by decide)] at H; exact H
     clear H
     have H := H1
     clear H1
     have H' := Aside0.mk H
     clear H
     have hnb11 := NB321_320.out
     have hnc11 := NB320_321.out
     have hnb12 := NB321_0.out
     have hnc12 := NB0_321.out
     have hcz13_0 : wc.cell? ⟨gb321, 0, none⟩ = some (.int .u64 0) := (blk_cell BK321.out 0).trans rfl
     have hcz13_1 : wc.cell? ⟨gb321, 1, none⟩ = some (.int .i64 0) := (blk_cell BK321.out 1).trans rfl
     have hcz13_2 : wc.cell? ⟨gb321, 2, none⟩ = some (.int .i64 0) := (blk_cell BK321.out 2).trans rfl
     have hcz13_3 : wc.cell? ⟨gb321, 3, none⟩ = some (.slice none 0 0) := (blk_cell BK321.out 3).trans rfl
     have hcz13_4 : wc.cell? ⟨gb321, 4, none⟩ = some (.slice none 0 0) := (blk_cell BK321.out 4).trans rfl
     have hfz13_0 := blk_frozen BK321.out 0
     have hfz13_1 := blk_frozen BK321.out 1
     have hfz13_2 := blk_frozen BK321.out 2
     have hfz13_3 := blk_frozen BK321.out 3
     have hfz13_4 := blk_frozen BK321.out 4
     go_wp2
     go_meet
     case rel => exact ⟨_, (IntKind.u64.wrap (a1 + t322)), H', ⟨by have := HJ3.out; first | omega | exact Nat.le_refl _⟩, ⟨by (with_reducible repeat (first | refine blk_drewN ?_ _ | refine blk_drew ?_ | refine blk_alloc ?_ _)); refine blk_far ?_ NB320_321.out _; (with_reducible repeat (first | refine blk_drewN ?_ _ | refine blk_drew ?_ | refine blk_alloc ?_ _)); exact BK320.out⟩, ⟨by (with_reducible repeat (first | refine blk_drewN ?_ _ | refine blk_drew ?_ | refine blk_alloc ?_ _)); refine blk_put (cs := #[.int .u64 0, .int .i64 0, .int .i64 0, .slice none 0 0, .slice none 0 0]) ?_ 0 _ rfl; (with_reducible repeat (first | refine blk_drewN ?_ _ | refine blk_drew ?_ | refine blk_alloc ?_ _)); exact BK321.out⟩, ⟨by repeat (first | (with_reducible first | exact HI0.out | apply IsS81.alloc | apply IsS81.drewN | apply IsS81.drew | apply IsS81.set_1 | apply IsS81.set_2 | apply IsS81.set_3 | refine IsS81.far ?_ NB0_320.out _ | refine IsS81.far ?_ NB0_321.out _) | exact HI0.out)⟩, ⟨by repeat (first | (with_reducible first | exact HK.out | apply KeepBut.set_ | apply keep_drewN | apply keep_drew | apply keep_alloc | refine keep_far ?_ GW320.out _ | refine keep_far ?_ GW321.out _) | exact HK.out)⟩, ⟨by repeat (first | (with_reducible first | exact HB.out | apply below_alloc | apply pw_below_drewN | apply below_drew1 | refine below_set ?_ (IsS81.ge HI0.out) | refine below_set ?_ GE320.out | refine below_set ?_ GE321.out) | exact HB.out)⟩⟩
   case rest =>
    clear HC9
    try clear c1
    try clear p2
    try clear c5
    try clear c8
    try clear c8b0
    try clear c10
    try clear c11
    try clear c12
    try clear hcz13_0
    try clear hcz13_1
    try clear hcz13_2
    try clear hcz13_3
    try clear hcz13_4
    try clear hfz13_0
    try clear hfz13_1
    try clear hfz13_2
    try clear hfz13_3
    try clear hfz13_4
    try clear p2
    obtain ⟨kq, x322000_8, HA, HJ8, BK320, BK321, HI0, HK, HB⟩ := hcut
    cases kq with
    | zero => exact absurd HA.out (by simp [middenref16_text_object.j1])
    | succ kj8 =>
     have H := HA.out
     clear HA
     simp only [middenref16_text_object.j1] at H
     replace H := Option.bind_eq_some_iff.mp H
     obtain ⟨⟨t326, t327, t328, t329⟩, A140, H⟩ := H
     replace H : ((middenref16_text_number.f kj8 s0_0 t327 t328 t329).bind fun bt330 => ((middenref16_text_ints.f kj8 s0_0 bt330.2.1 bt330.2.2.1 bt330.2.2.2 0).bind fun bt334 => ((middenref16_text_many.f kj8 s0_0 bt334.2.1 bt334.2.2.1 bt334.2.2.2).bind fun bt340 => (middenref16_text_object.l0 kj8 x8_3 bt340.1 0 s0_0 bt340.2.1 bt340.2.2.1 bt340.2.2.2 x322000_8 (wrap64 (t326)) (wrap64 (bt330.1)) bt334.1 ([] : List Int))))) = some (r1, r2, r3, r4, r5, r6, r7, r8, r9) := H
     have A14 := Aside0.mk A140
     clear A140
     replace H := Option.bind_eq_some_iff.mp H
     obtain ⟨⟨t330, t331, t332, t333⟩, A150, H⟩ := H
     replace H : ((middenref16_text_ints.f kj8 s0_0 t331 t332 t333 0).bind fun bt334 => ((middenref16_text_many.f kj8 s0_0 bt334.2.1 bt334.2.2.1 bt334.2.2.2).bind fun bt340 => (middenref16_text_object.l0 kj8 x8_3 bt340.1 0 s0_0 bt340.2.1 bt340.2.2.1 bt340.2.2.2 x322000_8 (wrap64 (t326)) (wrap64 (t330)) bt334.1 ([] : List Int)))) = some (r1, r2, r3, r4, r5, r6, r7, r8, r9) := H
     have A15 := Aside0.mk A150
     clear A150
     replace H := Option.bind_eq_some_iff.mp H
     obtain ⟨⟨t334, t337, t338, t339⟩, A160, H⟩ := H
     replace H : ((middenref16_text_many.f kj8 s0_0 t337 t338 t339).bind fun bt340 => (middenref16_text_object.l0 kj8 x8_3 bt340.1 0 s0_0 bt340.2.1 bt340.2.2.1 bt340.2.2.2 x322000_8 (wrap64 (t326)) (wrap64 (t330)) t334 ([] : List Int))) = some (r1, r2, r3, r4, r5, r6, r7, r8, r9) := H
     have A16 := Aside0.mk A160
     clear A160
     replace H := Option.bind_eq_some_iff.mp H
     obtain ⟨⟨t340, t341, t342, t343⟩, A170, H⟩ := H
     replace H : (middenref16_text_object.l0 kj8 x8_3 t340 0 s0_0 t341 t342 t343 x322000_8 (wrap64 (t326)) (wrap64 (t330)) t334 ([] : List Int)) = some (r1, r2, r3, r4, r5, r6, r7, r8, r9) := H
     have A17 := Aside0.mk A170
     clear A170
     have H' := Aside0.mk H
     clear H
     go_wp2_with (first | ((with_reducible refine gate_callee (f := 50) rfl ?_); refine goesL_ (some 28) rfl rfl Tryd.func50 (by kernel_rfl) rfl #[.pointer (some ⟨g, 0, none⟩)] rfl (by (try simp only [List.map_toArray, List.map_cons, List.map_nil]); first | done | rfl | (simp only [List.length_drop, List.length_take]; rfl)) ?_; (with_reducible refine (middenref16_text_number.calls kj8 g s0_0 t323 t324 t325 t326 t327 t328 t329 w0 _ ?side1 ?side2 A14.out).mono ?_); (case side1 => repeat (first | (with_reducible first | exact HI0.out | apply IsS81.alloc | apply IsS81.drewN | apply IsS81.drew | apply IsS81.set_1 | apply IsS81.set_2 | apply IsS81.set_3 | refine IsS81.far ?_ NB0_320.out _ | refine IsS81.far ?_ NB0_321.out _) | exact HI0.out)); (case side2 => repeat (first | (with_reducible first | exact HB.out | apply below_alloc | apply pw_below_drewN | apply below_drew1 | refine below_set ?_ (IsS81.ge HI0.out) | refine below_set ?_ GE320.out | refine below_set ?_ GE321.out) | exact HB.out)); rintro e w18 ⟨rfl, hi, hb, hk⟩; refine ⟨_, rfl, ?_⟩; have n0_ := Aside0.mk (KeepBut.blk hk (g' := gb320) (o := .cells #[.int .u64 0, .int .i64 0, .int .i64 0, .slice none 0 0, .slice none 0 0] 62 (0, 0)) (by (with_reducible repeat (first | refine blk_drewN ?_ _ | refine blk_drew ?_ | refine blk_alloc ?_ _)); exact BK320.out) NB320_0.out (by simp)); have n1_ := Aside0.mk (KeepBut.blk hk (g' := gb321) (o := .cells #[.int .u64 x322000_8, .int .i64 0, .int .i64 0, .slice none 0 0, .slice none 0 0] 62 (0, 0)) (by (with_reducible repeat (first | refine blk_drewN ?_ _ | refine blk_drew ?_ | refine blk_alloc ?_ _)); exact BK321.out) NB321_0.out (by simp)); have n2_ := Aside0.mk (KeepBut.trans (by repeat (first | (with_reducible first | exact HK.out | apply KeepBut.set_ | apply keep_drewN | apply keep_drew | apply keep_alloc | refine keep_far ?_ GW320.out _ | refine keep_far ?_ GW321.out _) | exact HK.out)) hk (.inl rfl)); have n3_ := Aside0.mk (hb); have n4_ := Aside0.mk (hi); clear BK320; clear BK321; clear HK; clear HB; clear HI0; have BK320 := n0_; have BK321 := n1_; have HK := n2_; have HB := n3_; have HI0 := n4_; clear n0_ n1_ n2_ n3_ n4_; (try clear hb); (try clear hb2); (try clear hk); (try clear hi); have hnb19 := NB321_320.out; have hnc19 := NB320_321.out; have hnb20 := NB321_0.out; have hnc20 := NB0_321.out; have hcz21_0 : w18.cell? ⟨gb321, 0, none⟩ = some (.int .u64 x322000_8) := (blk_cell BK321.out 0).trans rfl; have hcz21_1 : w18.cell? ⟨gb321, 1, none⟩ = some (.int .i64 0) := (blk_cell BK321.out 1).trans rfl; have hcz21_2 : w18.cell? ⟨gb321, 2, none⟩ = some (.int .i64 0) := (blk_cell BK321.out 2).trans rfl; have hcz21_3 : w18.cell? ⟨gb321, 3, none⟩ = some (.slice none 0 0) := (blk_cell BK321.out 3).trans rfl; have hcz21_4 : w18.cell? ⟨gb321, 4, none⟩ = some (.slice none 0 0) := (blk_cell BK321.out 4).trans rfl; have hfz21_0 := blk_frozen BK321.out 0; have hfz21_1 := blk_frozen BK321.out 1; have hfz21_2 := blk_frozen BK321.out 2; have hfz21_3 := blk_frozen BK321.out 3; have hfz21_4 := blk_frozen BK321.out 4) | ((with_reducible refine gate_callee (f := 50) rfl ?_); refine goesL_ (some 32) rfl rfl Tryd.func50 (by kernel_rfl) rfl #[.pointer (some ⟨g, 0, none⟩)] rfl (by (try simp only [List.map_toArray, List.map_cons, List.map_nil]); first | done | rfl | (simp only [List.length_drop, List.length_take]; rfl)) ?_; (with_reducible refine (middenref16_text_number.calls kj8 g s0_0 t327 t328 t329 t330 t331 t332 t333 w0 _ ?side1 ?side2 A15.out).mono ?_); (case side1 => repeat (first | (with_reducible first | exact HI0.out | apply IsS81.alloc | apply IsS81.drewN | apply IsS81.drew | apply IsS81.set_1 | apply IsS81.set_2 | apply IsS81.set_3 | refine IsS81.far ?_ NB0_320.out _ | refine IsS81.far ?_ NB0_321.out _) | exact HI0.out)); (case side2 => repeat (first | (with_reducible first | exact HB.out | apply below_alloc | apply pw_below_drewN | apply below_drew1 | refine below_set ?_ (IsS81.ge HI0.out) | refine below_set ?_ GE320.out | refine below_set ?_ GE321.out) | exact HB.out)); rintro e w22 ⟨rfl, hi, hb, hk⟩; refine ⟨_, rfl, ?_⟩; have n0_ := Aside0.mk (KeepBut.blk hk (g' := gb320) (o := .cells #[.int .u64 0, .int .i64 0, .int .i64 0, .slice none 0 0, .slice none 0 0] 62 (0, 0)) (by (with_reducible repeat (first | refine blk_drewN ?_ _ | refine blk_drew ?_ | refine blk_alloc ?_ _)); refine blk_far ?_ NB320_321.out _; (with_reducible repeat (first | refine blk_drewN ?_ _ | refine blk_drew ?_ | refine blk_alloc ?_ _)); exact BK320.out) NB320_0.out (by simp)); have n1_ := Aside0.mk (KeepBut.blk hk (g' := gb321) (o := .cells #[.int .u64 x322000_8, .int .i64 (wrap64 (t326)), .int .i64 0, .slice none 0 0, .slice none 0 0] 62 (0, 0)) (by (with_reducible repeat (first | refine blk_drewN ?_ _ | refine blk_drew ?_ | refine blk_alloc ?_ _)); refine blk_put (cs := #[.int .u64 x322000_8, .int .i64 0, .int .i64 0, .slice none 0 0, .slice none 0 0]) ?_ 1 _ rfl; (with_reducible repeat (first | refine blk_drewN ?_ _ | refine blk_drew ?_ | refine blk_alloc ?_ _)); exact BK321.out) NB321_0.out (by simp)); have n2_ := Aside0.mk (KeepBut.trans (by repeat (first | (with_reducible first | exact HK.out | apply KeepBut.set_ | apply keep_drewN | apply keep_drew | apply keep_alloc | refine keep_far ?_ GW320.out _ | refine keep_far ?_ GW321.out _) | exact HK.out)) hk (.inl rfl)); have n3_ := Aside0.mk (hb); have n4_ := Aside0.mk (hi); clear BK320; clear BK321; clear HK; clear HB; clear HI0; have BK320 := n0_; have BK321 := n1_; have HK := n2_; have HB := n3_; have HI0 := n4_; clear n0_ n1_ n2_ n3_ n4_; (try clear hb); (try clear hb2); (try clear hk); (try clear hi); have hcz23_0 : w22.cell? ⟨gb321, 0, none⟩ = some (.int .u64 x322000_8) := (blk_cell BK321.out 0).trans rfl; have hcz23_1 : w22.cell? ⟨gb321, 1, none⟩ = some (.int .i64 (wrap64 (t326))) := (blk_cell BK321.out 1).trans rfl; have hcz23_2 : w22.cell? ⟨gb321, 2, none⟩ = some (.int .i64 0) := (blk_cell BK321.out 2).trans rfl; have hcz23_3 : w22.cell? ⟨gb321, 3, none⟩ = some (.slice none 0 0) := (blk_cell BK321.out 3).trans rfl; have hcz23_4 : w22.cell? ⟨gb321, 4, none⟩ = some (.slice none 0 0) := (blk_cell BK321.out 4).trans rfl; have hfz23_0 := blk_frozen BK321.out 0; have hfz23_1 := blk_frozen BK321.out 1; have hfz23_2 := blk_frozen BK321.out 2; have hfz23_3 := blk_frozen BK321.out 3; have hfz23_4 := blk_frozen BK321.out 4) | ((with_reducible refine gate_callee (f := 53) rfl ?_); refine goesL_ (some 36) rfl rfl Tryd.func53 (by kernel_rfl) rfl #[.pointer (some ⟨g, 0, none⟩), .int .i64 0] rfl (by (try simp only [List.map_toArray, List.map_cons, List.map_nil]); first | done | rfl | (simp only [List.length_drop, List.length_take]; rfl)) ?_; (with_reducible refine (middenref16_text_ints.calls kj8 g s0_0 t331 t332 t333 0 t334 t337 t338 t339 w0 _ ?side1 ?side2 A16.out).mono ?_); (case side1 => repeat (first | (with_reducible first | exact HI0.out | apply IsS81.alloc | apply IsS81.drewN | apply IsS81.drew | apply IsS81.set_1 | apply IsS81.set_2 | apply IsS81.set_3 | refine IsS81.far ?_ NB0_320.out _ | refine IsS81.far ?_ NB0_321.out _) | exact HI0.out)); (case side2 => repeat (first | (with_reducible first | exact HB.out | apply below_alloc | apply pw_below_drewN | apply below_drew1 | refine below_set ?_ (IsS81.ge HI0.out) | refine below_set ?_ GE320.out | refine below_set ?_ GE321.out) | exact HB.out)); rintro e w24 ⟨v335, rfl, ho0, hi, hb, hk⟩; refine ⟨_, rfl, ?_⟩; have n0_ := Aside0.mk (KeepBut.blk hk (g' := gb320) (o := .cells #[.int .u64 0, .int .i64 0, .int .i64 0, .slice none 0 0, .slice none 0 0] 62 (0, 0)) (by (with_reducible repeat (first | refine blk_drewN ?_ _ | refine blk_drew ?_ | refine blk_alloc ?_ _)); refine blk_far ?_ NB320_321.out _; (with_reducible repeat (first | refine blk_drewN ?_ _ | refine blk_drew ?_ | refine blk_alloc ?_ _)); exact BK320.out) NB320_0.out (by simp)); have n1_ := Aside0.mk (KeepBut.blk hk (g' := gb321) (o := .cells #[.int .u64 x322000_8, .int .i64 (wrap64 (t326)), .int .i64 (wrap64 (t330)), .slice none 0 0, .slice none 0 0] 62 (0, 0)) (by (with_reducible repeat (first | refine blk_drewN ?_ _ | refine blk_drew ?_ | refine blk_alloc ?_ _)); refine blk_put (cs := #[.int .u64 x322000_8, .int .i64 (wrap64 (t326)), .int .i64 0, .slice none 0 0, .slice none 0 0]) ?_ 2 _ rfl; (with_reducible repeat (first | refine blk_drewN ?_ _ | refine blk_drew ?_ | refine blk_alloc ?_ _)); exact BK321.out) NB321_0.out (by simp)); have n2_ := Aside0.mk (Kd.R_lower ho0 (keep_size (w := w) (g := g) (row := none) (by repeat (first | (with_reducible first | exact HK.out | apply KeepBut.set_ | apply keep_drewN | apply keep_drew | apply keep_alloc | refine keep_far ?_ GW320.out _ | refine keep_far ?_ GW321.out _) | exact HK.out)))); have n3_ := Aside0.mk (KeepBut.trans (by repeat (first | (with_reducible first | exact HK.out | apply KeepBut.set_ | apply keep_drewN | apply keep_drew | apply keep_alloc | refine keep_far ?_ GW320.out _ | refine keep_far ?_ GW321.out _) | exact HK.out)) hk (.inl rfl)); have n4_ := Aside0.mk (hb); have n5_ := Aside0.mk (hi); clear BK320; clear BK321; clear HK; clear HB; clear HI0; have BK320 := n0_; have BK321 := n1_; have HO336 := n2_; have HK := n3_; have HB := n4_; have HI0 := n5_; clear n0_ n1_ n2_ n3_ n4_ n5_; (try clear hb); (try clear hb2); (try clear hk); (try clear hi); (try clear ho0); obtain ⟨Ao25, co25, eo25⟩ := Kd.R_slice HO336.out; subst eo25; have hcz26_0 : w24.cell? ⟨gb321, 0, none⟩ = some (.int .u64 x322000_8) := (blk_cell BK321.out 0).trans rfl; have hcz26_1 : w24.cell? ⟨gb321, 1, none⟩ = some (.int .i64 (wrap64 (t326))) := (blk_cell BK321.out 1).trans rfl; have hcz26_2 : w24.cell? ⟨gb321, 2, none⟩ = some (.int .i64 (wrap64 (t330))) := (blk_cell BK321.out 2).trans rfl; have hcz26_3 : w24.cell? ⟨gb321, 3, none⟩ = some (.slice none 0 0) := (blk_cell BK321.out 3).trans rfl; have hcz26_4 : w24.cell? ⟨gb321, 4, none⟩ = some (.slice none 0 0) := (blk_cell BK321.out 4).trans rfl; have hfz26_0 := blk_frozen BK321.out 0; have hfz26_1 := blk_frozen BK321.out 1; have hfz26_2 := blk_frozen BK321.out 2; have hfz26_3 := blk_frozen BK321.out 3; have hfz26_4 := blk_frozen BK321.out 4) | ((with_reducible refine gate_callee (f := 51) rfl ?_); refine goesL_ (some 39) rfl rfl Tryd.func51 (by kernel_rfl) rfl #[.pointer (some ⟨g, 0, none⟩)] rfl (by (try simp only [List.map_toArray, List.map_cons, List.map_nil]); first | done | rfl | (simp only [List.length_drop, List.length_take]; rfl)) ?_; (with_reducible refine (middenref16_text_many.calls kj8 g s0_0 t337 t338 t339 t340 t341 t342 t343 w0 _ ?side1 ?side2 A17.out).mono ?_); (case side1 => repeat (first | (with_reducible first | exact HI0.out | apply IsS81.alloc | apply IsS81.drewN | apply IsS81.drew | apply IsS81.set_1 | apply IsS81.set_2 | apply IsS81.set_3 | refine IsS81.far ?_ NB0_320.out _ | refine IsS81.far ?_ NB0_321.out _) | exact HI0.out)); (case side2 => repeat (first | (with_reducible first | exact HB.out | apply below_alloc | apply pw_below_drewN | apply below_drew1 | refine below_set ?_ (IsS81.ge HI0.out) | refine below_set ?_ GE320.out | refine below_set ?_ GE321.out) | exact HB.out)); rintro e w27 ⟨rfl, hi, hb, hk⟩; refine ⟨_, rfl, ?_⟩; have n0_ := Aside0.mk (KeepBut.blk hk (g' := gb320) (o := .cells #[.int .u64 0, .int .i64 0, .int .i64 0, .slice none 0 0, .slice none 0 0] 62 (0, 0)) (by (with_reducible repeat (first | refine blk_drewN ?_ _ | refine blk_drew ?_ | refine blk_alloc ?_ _)); refine blk_far ?_ NB320_321.out _; (with_reducible repeat (first | refine blk_drewN ?_ _ | refine blk_drew ?_ | refine blk_alloc ?_ _)); exact BK320.out) NB320_0.out (by simp)); have n1_ := Aside0.mk (KeepBut.blk hk (g' := gb321) (o := .cells #[.int .u64 x322000_8, .int .i64 (wrap64 (t326)), .int .i64 (wrap64 (t330)), .slice Ao25 t334.length co25, .slice none 0 0] 62 (0, 0)) (by (with_reducible repeat (first | refine blk_drewN ?_ _ | refine blk_drew ?_ | refine blk_alloc ?_ _)); refine blk_put (cs := #[.int .u64 x322000_8, .int .i64 (wrap64 (t326)), .int .i64 (wrap64 (t330)), .slice none 0 0, .slice none 0 0]) ?_ 3 _ rfl; (with_reducible repeat (first | refine blk_drewN ?_ _ | refine blk_drew ?_ | refine blk_alloc ?_ _)); exact BK321.out) NB321_0.out (by simp)); have n2_ := Aside0.mk (Kd.R_mono (Kd.R_keep (IsS81.apart (show IsS81 w0 _ g s0_0 t337 t338 t339 from by repeat (first | (with_reducible first | exact HI0.out | apply IsS81.alloc | apply IsS81.drewN | apply IsS81.drew | apply IsS81.set_1 | apply IsS81.set_2 | apply IsS81.set_3 | refine IsS81.far ?_ NB0_320.out _ | refine IsS81.far ?_ NB0_321.out _) | exact HI0.out)) (by (with_reducible repeat (first | apply Kd.R_alloc | apply Kd.R_drewN | apply Kd.R_drew)); exact (Kd.R_mono (Kd.R_far (p := ⟨gb321, 3, none⟩) (Kd.R_types HO336.out BK321.out (by decide)) (fun _ hk => hk.2) (.slice Ao25 t334.length co25)) (fun _ h_ => h_.1))) (by decide)) hk (fun _ h => h.2)) (fun _ h => h.1)); have n3_ := Aside0.mk (KeepBut.trans (by repeat (first | (with_reducible first | exact HK.out | apply KeepBut.set_ | apply keep_drewN | apply keep_drew | apply keep_alloc | refine keep_far ?_ GW320.out _ | refine keep_far ?_ GW321.out _) | exact HK.out)) hk (.inl rfl)); have n4_ := Aside0.mk (hb); have n5_ := Aside0.mk (hi); clear BK320; clear BK321; clear HO336; clear HK; clear HB; clear HI0; have BK320 := n0_; have BK321 := n1_; have HO336 := n2_; have HK := n3_; have HB := n4_; have HI0 := n5_; clear n0_ n1_ n2_ n3_ n4_ n5_; (try clear hb); (try clear hb2); (try clear hk); (try clear hi)))
     go_loopg [10] kj8 (fun kq v10 w' => ∃ (x10_3 : Int) (x1001_3 : Int) (x1002_3 : Int) (x1003_3 : Int) (x322004_3 : List Int) (u322004 : Value), v10 = .int .i64 x10_3 ∧ Aside0 (middenref16_text_object.l0 kq x8_3 t340 x10_3 s0_0 x1001_3 x1002_3 x1003_3 x322000_8 (wrap64 (t326)) (wrap64 (t330)) t334 x322004_3 = some (r1, r2, r3, r4, r5, r6, r7, r8, r9)) ∧ Aside0 (kq ≤ kj8) ∧ Aside0 (Kd.R (Kd.int .i64) 3 w' w.heap.size (fun _ => True) (.slice Ao25 t334.length co25) t334) ∧ Aside0 (Kd.R (Kd.int .u64) 25 w' w.heap.size (fun _ => True) u322004 x322004_3) ∧ Aside0 (w'.heap[gb320]? = some (.cells #[.int .u64 0, .int .i64 0, .int .i64 0, (.slice none 0 0), (.slice none 0 0)] 62 (0, 0))) ∧ Aside0 (w'.heap[gb321]? = some (.cells #[.int .u64 x322000_8, .int .i64 (wrap64 (t326)), .int .i64 (wrap64 (t330)), (.slice Ao25 t334.length co25), u322004] 62 (0, 0))) ∧ Aside0 (IsS81 w0 w' g s0_0 x1001_3 x1002_3 x1003_3) ∧ Aside0 (KeepBut w w' g none) ∧ Aside0 (Below w0.heap.size w0 w'))
     case atStart => exact ⟨(0), (t341), (t342), (t343), (([] : List Int)), (.slice none 0 0), (by first | rfl | (simp; done) | (simp [*]; done)), H', ⟨Nat.le_refl _⟩, ⟨by (with_reducible repeat (first | apply Kd.R_alloc | apply Kd.R_drewN | apply Kd.R_drew)); exact HO336.out⟩, ⟨by first | exact Kd.R_nil _ _ _ _ _ | exact Kd.N_nil _ _ _ _ _ | exact Kd.V_nil _ _ _ _ _ | exact Kd.Q_nil _ _ _ _ _ | exact Kd.S_nil _ _ _ _ _⟩, ⟨by (with_reducible repeat (first | refine blk_drewN ?_ _ | refine blk_drew ?_ | refine blk_alloc ?_ _)); exact BK320.out⟩, ⟨by (with_reducible repeat (first | refine blk_drewN ?_ _ | refine blk_drew ?_ | refine blk_alloc ?_ _)); exact BK321.out⟩, ⟨by repeat (first | (with_reducible first | exact HI0.out | apply IsS81.alloc | apply IsS81.drewN | apply IsS81.drew | apply IsS81.set_1 | apply IsS81.set_2 | apply IsS81.set_3 | refine IsS81.far ?_ NB0_320.out _ | refine IsS81.far ?_ NB0_321.out _) | exact HI0.out)⟩, ⟨by repeat (first | (with_reducible first | exact HK.out | apply KeepBut.set_ | apply keep_drewN | apply keep_drew | apply keep_alloc | refine keep_far ?_ GW320.out _ | refine keep_far ?_ GW321.out _) | exact HK.out)⟩, ⟨by repeat (first | (with_reducible first | exact HB.out | apply below_alloc | apply pw_below_drewN | apply below_drew1 | refine below_set ?_ (IsS81.ge HI0.out) | refine below_set ?_ GE320.out | refine below_set ?_ GE321.out) | exact HB.out)⟩⟩
     case round =>
      clear H'
      try clear c1
      try clear c2
      try clear p2
      try clear c5
      try clear p6
      try clear c8
      try clear c8b0
      try clear c10
      try clear c11
      try clear c12
      try clear c19
      try clear c20
      try clear hcz13_0
      try clear hcz13_1
      try clear hcz13_2
      try clear hcz13_3
      try clear hcz13_4
      try clear hcz21_0
      try clear hcz21_1
      try clear hcz21_2
      try clear hcz21_3
      try clear hcz21_4
      try clear hcz23_0
      try clear hcz23_1
      try clear hcz23_2
      try clear hcz23_3
      try clear hcz23_4
      try clear hcz26_0
      try clear hcz26_1
      try clear hcz26_2
      try clear hcz26_3
      try clear hcz26_4
      try clear hfz13_0
      try clear hfz13_1
      try clear hfz13_2
      try clear hfz13_3
      try clear hfz13_4
      try clear hfz21_0
      try clear hfz21_1
      try clear hfz21_2
      try clear hfz21_3
      try clear hfz21_4
      try clear hfz23_0
      try clear hfz23_1
      try clear hfz23_2
      try clear hfz23_3
      try clear hfz23_4
      try clear hfz26_0
      try clear hfz26_1
      try clear hfz26_2
      try clear hfz26_3
      try clear hfz26_4
      try clear p2
      obtain ⟨x10_3, x1001_3, x1002_3, x1003_3, x322004_3, u322004, rfl, HA, HK3, HO_322003, HO_322004, BK320, BK321, HI0, HK, HB⟩ := hrel
      cases gk with
      | zero => exact absurd HA.out (by simp [middenref16_text_object.l0])
      | succ k3 =>
       have H := HA.out
       clear HA
       simp only [middenref16_text_object.l0] at H
       by_cases c28 : x10_3 < t340
       ·rw [if_pos c28] at H
        have c28b0 : decide (x10_3 < t340) = true := decide_eq_true c28
        clear c28
        by_cases c29 : x1002_3 = 0
        ·rw [if_pos c29] at H
         have c29b0 : (x1002_3 == 0) = true := beq_iff_eq.mpr c29
         have c29b1 : (x1002_3 != 0) = false := bne_eq_false_iff_eq.mpr c29
         clear c29
         replace H := Option.bind_eq_some_iff.mp H
         obtain ⟨⟨t344, t345, t346, t347⟩, A300, H⟩ := H
         replace H : (if x322004_3.length < 17592186044416 then (middenref16_text_object.l0 k3 x8_3 t340 (wrap64 (x10_3 + 1)) s0_0 t345 t346 t347 x322000_8 (wrap64 (t326)) (wrap64 (t330)) t334 (x322004_3 ++ [t344])) else (none)) = some (r1, r2, r3, r4, r5, r6, r7, r8, r9) := H
         have A30 := Aside0.mk A300
         clear A300
         by_cases c31 : x322004_3.length < 17592186044416
         ·rw [if_pos c31] at H
          have LMc31 := Aside0.mk c31
          clear c31
          obtain ⟨y348, hy348⟩ : ∃ y_ : List Int, y_ = (x322004_3 ++ [t344]) := ⟨_, rfl⟩
          replace H : (middenref16_text_object.l0 k3 x8_3 t340 (wrap64 (x10_3 + 1)) s0_0 t345 t346 t347 x322000_8 (wrap64 (t326)) (wrap64 (t330)) t334 y348) = some (r1, r2, r3, r4, r5, r6, r7, r8, r9) := by first | (rw [hy348]; with_reducible exact H) | (have H2_ := (Option.bind_some _ _).symm.trans H; rw [hy348]; with_reducible exact H2_) | (have H2_ := (Option.bind_some _ _).symm.trans H; with_reducible exact H2_) | with_reducible exact H | (rw [hy348]; exact H) | exact H
          have Ny348 := Aside0.mk hy348
          clear hy348
          have H' := Aside0.mk H
          clear H
          obtain ⟨ASz32_0, cSz32_0, HGz32, hgz32, HSz32_0⟩ := HI0.out
          have hcz32_0 := cellS81_0 HGz32
          have hcz32_1 := cellS81_1 HGz32
          have hcz32_2 := cellS81_2 HGz32
          have hcz32_3 := cellS81_3 HGz32
          have hfz32_1 := blk_frozen HGz32 1
          have hfz32_2 := blk_frozen HGz32 2
          have hfz32_3 := blk_frozen HGz32 3
          clear HGz32 hgz32
          try go_wp2
          have n0_ := Aside0.mk (Kd.R_drew HO_322003.out)
          have n1_ := Aside0.mk (Kd.R_drew HO_322004.out)
          have n2_ := Aside0.mk (blk_drew BK320.out)
          have n3_ := Aside0.mk (blk_drew BK321.out)
          have n4_ := Aside0.mk (IsS81.drew HI0.out)
          have n5_ := Aside0.mk (keep_drew HK.out)
          have n6_ := Aside0.mk (below_drew1 HB.out)
          clear HO_322003
          clear HO_322004
          clear BK320
          clear BK321
          clear HI0
          clear HK
          clear HB
          have HO_322003 := n0_
          have HO_322004 := n1_
          have BK320 := n2_
          have BK321 := n3_
          have HI0 := n4_
          have HK := n5_
          have HB := n6_
          clear n0_ n1_ n2_ n3_ n4_ n5_ n6_
          refine start_ (n := 8) (S := fun w' => w'.cell? ⟨gb321, 0, none⟩ = some (.int .u64 x322000_8) ∧ w'.cell? ⟨gb321, 1, none⟩ = some (.int .i64 (wrap64 (t326))) ∧ w'.cell? ⟨gb321, 2, none⟩ = some (.int .i64 (wrap64 (t330))) ∧ w'.cell? ⟨gb321, 3, none⟩ = some (.slice Ao25 t334.length co25) ∧ w'.cell? ⟨gb321, 4, none⟩ = some (u322004)) (ds := [7]) #[false, false, false, false, false, false, false, false] (by kernel_rfl) rfl rfl ⟨(blk_cell BK321.out 0).trans rfl, (blk_cell BK321.out 1).trans rfl, (blk_cell BK321.out 2).trans rfl, (blk_cell BK321.out 3).trans rfl, (blk_cell BK321.out 4).trans rfl⟩ (fun hHeld => ?_); refine with_tabW middenref16_text_object.tab13 middenref16_text_object.bits13 (fun HT_ HW_ => ?_)
          generalize wr.drew = w33 at HO_322003 HO_322004 BK320 BK321 HI0 HK HB hHeld ⊢
          refine pure_ (i := 0) (N := some 52) (v := ?_) (a' := ?_) #[true, false, false, false, false, false, false, false] rfl rfl (any_of HT_.out (by kernel_rfl)) (fun _ _ _ h => h) (Or.inl ⟨by rfl, ?_⟩) ?_ ?_
          rotate_left
          ·intro w'
           go_simp
           with_reducible rfl
          rotate_left
          ·simp only [Act.put, List.setIfInBounds_toArray, List.set_cons_zero, List.set_cons_succ, i64_w, i32_w]
           rfl
          refine pure_ (i := 2) (N := some 54) (v := ?_) (a' := ?_) #[true, false, true, false, false, false, false, false] rfl rfl (any_of HT_.out (by kernel_rfl)) (fun _ _ _ h => h) (Or.inl ⟨by rfl, ?_⟩) ?_ ?_
          rotate_left
          ·intro w'
           go_simp
           with_reducible rfl
          rotate_left
          ·simp only [Act.put, List.setIfInBounds_toArray, List.set_cons_zero, List.set_cons_succ, i64_w, i32_w]
           rfl
          refine take_ (i := 1) (N := some 53) (v := ?_) (a' := ?_) #[true, true, true, false, false, false, false, false] rfl rfl (take_ofW HT_.out HW_.out (by kernel_rfl)) (fun _ _ _ h => h) (Or.inl ⟨by rfl, ?_⟩) hHeld ?_ ?_
          rotate_left
          ·rintro w' ⟨s0, s1, s2, s3, s4⟩
           go_simp
           with_reducible rfl
          rotate_left
          ·simp only [Act.put, List.setIfInBounds_toArray, List.set_cons_zero, List.set_cons_succ, i64_w, i32_w]
           rfl
          refine one_ (i := 3) (N := some 55) #[true, true, true, true, false, false, false, false] rfl rfl (one_of HT_.out (by kernel_rfl)) (by decide) (fun K hK => ?_)
          refine goes_ Tryd.func78 (by kernel_rfl) rfl #[.pointer (some ⟨g, 0, none⟩)] (by rfl) rfl rfl (by (try simp only [List.map_toArray, List.map_cons, List.map_nil]); first | done | rfl | (simp only [List.length_drop, List.length_take]; rfl)) ?_
          with_reducible refine (middenref16_text_word.calls k3 g s0_0 x1001_3 x1002_3 x1003_3 t344 t345 t346 t347 w0 _ ?side1 ?side2 A30.out).mono ?_
          (case side1 => repeat (first | (with_reducible first | exact HI0.out | apply IsS81.alloc | apply IsS81.drewN | apply IsS81.drew | apply IsS81.set_1 | apply IsS81.set_2 | apply IsS81.set_3 | refine IsS81.far ?_ NB0_320.out _ | refine IsS81.far ?_ NB0_321.out _) | exact HI0.out))
          (case side2 => repeat (first | (with_reducible first | exact HB.out | apply below_alloc | apply pw_below_drewN | apply below_drew1 | refine below_set ?_ (IsS81.ge HI0.out) | refine below_set ?_ GE320.out | refine below_set ?_ GE321.out) | exact HB.out))
          rintro e w34 ⟨rfl, hi, hb, hk⟩
          refine ⟨_, rfl, ?_⟩
          have n0_ := Aside0.mk (Kd.R_mono (Kd.R_keep (IsS81.apart (show IsS81 w0 _ g s0_0 x1001_3 x1002_3 x1003_3 from by repeat (first | (with_reducible first | exact HI0.out | apply IsS81.alloc | apply IsS81.drewN | apply IsS81.drew | apply IsS81.set_1 | apply IsS81.set_2 | apply IsS81.set_3 | refine IsS81.far ?_ NB0_320.out _ | refine IsS81.far ?_ NB0_321.out _) | exact HI0.out)) (by (with_reducible repeat (first | apply Kd.R_alloc | apply Kd.R_drewN | apply Kd.R_drew)); exact HO_322003.out) (by decide)) hk (fun _ h => h.2)) (fun _ h => h.1))
          have n1_ := Aside0.mk (Kd.R_mono (Kd.R_keep (IsS81.apart (show IsS81 w0 _ g s0_0 x1001_3 x1002_3 x1003_3 from by repeat (first | (with_reducible first | exact HI0.out | apply IsS81.alloc | apply IsS81.drewN | apply IsS81.drew | apply IsS81.set_1 | apply IsS81.set_2 | apply IsS81.set_3 | refine IsS81.far ?_ NB0_320.out _ | refine IsS81.far ?_ NB0_321.out _) | exact HI0.out)) (by (with_reducible repeat (first | apply Kd.R_alloc | apply Kd.R_drewN | apply Kd.R_drew)); exact HO_322004.out) (by decide)) hk (fun _ h => h.2)) (fun _ h => h.1))
          have n2_ := Aside0.mk (KeepBut.blk hk (g' := gb320) (o := .cells #[.int .u64 0, .int .i64 0, .int .i64 0, .slice none 0 0, .slice none 0 0] 62 (0, 0)) (by (with_reducible repeat (first | refine blk_drewN ?_ _ | refine blk_drew ?_ | refine blk_alloc ?_ _)); exact BK320.out) NB320_0.out (by simp))
          have n3_ := Aside0.mk (KeepBut.blk hk (g' := gb321) (o := .cells #[.int .u64 x322000_8, .int .i64 (wrap64 (t326)), .int .i64 (wrap64 (t330)), .slice Ao25 t334.length co25, u322004] 62 (0, 0)) (by (with_reducible repeat (first | refine blk_drewN ?_ _ | refine blk_drew ?_ | refine blk_alloc ?_ _)); exact BK321.out) NB321_0.out (by simp))
          have n4_ := Aside0.mk (KeepBut.trans (by repeat (first | (with_reducible first | exact HK.out | apply KeepBut.set_ | apply keep_drewN | apply keep_drew | apply keep_alloc | refine keep_far ?_ GW320.out _ | refine keep_far ?_ GW321.out _) | exact HK.out)) hk (.inl rfl))
          have n5_ := Aside0.mk (hb)
          have n6_ := Aside0.mk (hi)
          clear HO_322003
          clear HO_322004
          clear BK320
          clear BK321
          clear HK
          clear HB
          clear HI0
          have HO_322003 := n0_
          have HO_322004 := n1_
          have BK320 := n2_
          have BK321 := n3_
          have HK := n4_
          have HB := n5_
          have HI0 := n6_
          clear n0_ n1_ n2_ n3_ n4_ n5_ n6_
          (try clear hb)
          (try clear hb2)
          (try clear hk)
          (try clear hi)
          refine hK.out _ _ ⟨(blk_cell BK321.out 0).trans rfl, (blk_cell BK321.out 1).trans rfl, (blk_cell BK321.out 2).trans rfl, (blk_cell BK321.out 3).trans rfl, (blk_cell BK321.out 4).trans rfl⟩ (fun hHeld => ?_)
          clear hK K
          refine norm_ (a' := ?_) ?_ ?_
          rotate_left
          ·show Act.put _ (some 55) _ = _
           simp only [Act.put, List.setIfInBounds_toArray, List.set_cons_zero, List.set_cons_succ, i64_w, i32_w]
           rfl
          refine one_ (i := 4) (N := some 56) #[true, true, true, true, true, false, false, false] rfl rfl (one_of HT_.out (by kernel_rfl)) (by decide) (fun K hK => ?_)
          refine value_ (w1 := ?_) (v := ?_) (by rfl) rfl ?_ ?_
          rotate_left 2
          ·go_simp
           constructor
           ·rfl
           ·rfl
          refine hK.out _ _ ⟨(blk_cell (blk_alloc BK321.out _) 0).trans rfl, (blk_cell (blk_alloc BK321.out _) 1).trans rfl, (blk_cell (blk_alloc BK321.out _) 2).trans rfl, (blk_cell (blk_alloc BK321.out _) 3).trans rfl, (blk_cell (blk_alloc BK321.out _) 4).trans rfl⟩ (fun hHeld => ?_)
          clear hK K
          refine norm_ (a' := ?_) ?_ ?_
          rotate_left
          ·show Act.put _ (some 56) _ = _
           simp only [Act.put, List.setIfInBounds_toArray, List.set_cons_zero, List.set_cons_succ, i64_w, i32_w]
           rfl
          refine one_ (i := 5) (N := some 57) #[true, true, true, true, true, true, false, false] rfl rfl (one_of HT_.out (by kernel_rfl)) (by decide) (fun K hK => ?_)
          refine Kd.R_append_step (Kd.int .u64) w.heap.size (by rfl) (.tmp 53) (.tmp 56) 60 25 (.int .u64 0) 8 rfl Tryd.underlying60 info25 rfl (by decide) (by omega) u322004 x322004_3 t344 [.int .u64 t344] (fun _ => True) (fun _ => False) rfl rfl ?aP (fun _ hk => hk.elim) ?aF ?aO (Below.refl _ _) ?aS ?aL ?_
          (case aP => exact rfl)
          (case aF => exact (fun _ _ => trivial))
          (case aO => exact (by (with_reducible repeat (first | apply Kd.R_alloc | apply Kd.R_drewN | apply Kd.R_drew)); exact HO_322004.out))
          (case aS => exact (keep_size (w := w) (g := g) (row := none) (by repeat (first | (with_reducible first | exact HK.out | apply KeepBut.set_ | apply keep_drewN | apply keep_drew | apply keep_alloc | refine keep_far ?_ GW320.out _ | refine keep_far ?_ GW321.out _) | exact HK.out))))
          (case aL => have := LMc31.out; omega)
          intro v349 w35 ho hb hg hat
          rw [← Ny348.out] at ho
          have n0_ := Aside0.mk (Kd.R_over' (by (with_reducible repeat (first | apply Kd.R_alloc | apply Kd.R_drewN | apply Kd.R_drew)); exact HO_322003.out) (Kd.R_typed (by (with_reducible repeat (first | apply Kd.R_alloc | apply Kd.R_drewN | apply Kd.R_drew)); exact HO_322004.out)) (by decide) hg)
          have n1_ := Aside0.mk (blk_grown (g := gb320) (o := .cells #[.int .u64 0, .int .i64 0, .int .i64 0, .slice none 0 0, .slice none 0 0] 62 (0, 0)) (by (with_reducible repeat (first | refine blk_drewN ?_ _ | refine blk_drew ?_ | refine blk_alloc ?_ _)); exact BK320.out) hg (Kd.R_ne HO_322004.out BK320.out (by decide)))
          have n2_ := Aside0.mk (blk_grown (g := gb321) (o := .cells #[.int .u64 x322000_8, .int .i64 (wrap64 (t326)), .int .i64 (wrap64 (t330)), .slice Ao25 t334.length co25, u322004] 62 (0, 0)) (by (with_reducible repeat (first | refine blk_drewN ?_ _ | refine blk_drew ?_ | refine blk_alloc ?_ _)); exact BK321.out) hg (Kd.R_ne HO_322004.out BK321.out (by decide)))
          have n3_ := Aside0.mk (IsS81.grown (by repeat (first | (with_reducible first | exact HI0.out | apply IsS81.alloc | apply IsS81.drewN | apply IsS81.drew | apply IsS81.set_1 | apply IsS81.set_2 | apply IsS81.set_3 | refine IsS81.far ?_ NB0_320.out _ | refine IsS81.far ?_ NB0_321.out _) | exact HI0.out)) hg (IsS81.own_ne HI0.out HO_322004.out (by decide)))
          have n4_ := Aside0.mk (below_weaken (by repeat (first | (with_reducible first | exact HB.out | apply below_alloc | apply pw_below_drewN | apply below_drew1 | refine below_set ?_ (IsS81.ge HI0.out) | refine below_set ?_ GE320.out | refine below_set ?_ GE321.out) | exact HB.out)) HL.out hb)
          have n5_ := Aside0.mk (KeepBut.trans (by repeat (first | (with_reducible first | exact HK.out | apply KeepBut.set_ | apply keep_drewN | apply keep_drew | apply keep_alloc | refine keep_far ?_ GW320.out _ | refine keep_far ?_ GW321.out _) | exact HK.out)) (KeepBut.of_grown hg g) (Kd.R_base2 HO_322004.out))
          have n6_ := Aside0.mk (ho)
          clear HO_322003
          clear BK320
          clear BK321
          clear HI0
          clear HB
          clear HK
          clear HO_322004
          have HO_322003 := n0_
          have BK320 := n1_
          have BK321 := n2_
          have HI0 := n3_
          have HB := n4_
          have HK := n5_
          have HO350 := n6_
          clear n0_ n1_ n2_ n3_ n4_ n5_ n6_
          clear ho hb hg hat
          obtain ⟨Ao36, co36, eo36⟩ := Kd.R_slice HO350.out
          (first | subst eo36 | (injection eo36 with f1_ f2_ f3_; have f4_ := f1_.symm; have f5_ := f3_.symm; clear f1_ f2_ f3_; subst f4_; subst f5_))
          refine hK.out _ _ ⟨(blk_cell BK321.out 0).trans rfl, (blk_cell BK321.out 1).trans rfl, (blk_cell BK321.out 2).trans rfl, (blk_cell BK321.out 3).trans rfl, (blk_cell BK321.out 4).trans rfl⟩ (fun hHeld => ?_)
          clear hK K
          refine norm_ (a' := ?_) ?_ ?_
          rotate_left
          ·show Act.put _ (some 57) _ = _
           simp only [Act.put, List.setIfInBounds_toArray, List.set_cons_zero, List.set_cons_succ, i64_w, i32_w]
           rfl
          refine pure_ (i := 6) (N := some 58) (v := ?_) (a' := ?_) #[true, true, true, true, true, true, true, false] rfl rfl (any_of HT_.out (by kernel_rfl)) (fun _ _ _ h => h) (Or.inl ⟨by rfl, ?_⟩) ?_ ?_
          rotate_left
          ·intro w'
           go_simp
           with_reducible rfl
          rotate_left
          ·simp only [Act.put, List.setIfInBounds_toArray, List.set_cons_zero, List.set_cons_succ, i64_w, i32_w]
           rfl
          refine last_ (i := 7) (N := none) #[true, true, true, true, true, true, true, true] rfl rfl (one_of HT_.out (by kernel_rfl)) (by decide) (fun K hK => ?_)
          have hs37 : w35.cell? ⟨gb321, 4, none⟩ = some (u322004) := (blk_cell BK321.out 4).trans rfl
          have hfs37 := blk_frozen BK321.out 4
          have hns37_0 := NB320_321.out
          have hms37_0 := NB321_320.out
          refine skip_ (w1 := ?_) (by rfl) rfl ?_ ?_
          rotate_left
          ·go_simp
           rfl
          refine hK.out _ _ ?_
          clear hK K
          refine done_ (done_of HT_.out (by kernel_rfl)) ?_
          try go_wp2
          go_roundg k3
          case measure => have := HJ3.out; have := HJ8.out; have := HK3.out; omega
          case rel => exact ⟨(wrap64 (x10_3 + 1)), (t345), (t346), (t347), (y348), (.slice Ao36 y348.length co36), (by first | rfl | (simp; done) | (simp [*]; done)), H', ⟨by have := HJ3.out; have := HJ8.out; have := HK3.out; omega⟩, ⟨by (with_reducible repeat (first | apply Kd.R_alloc | apply Kd.R_drewN | apply Kd.R_drew)); exact Kd.R_mono (Kd.R_far (p := ⟨gb321, 4, none⟩) (Kd.R_types HO_322003.out BK321.out (by decide)) (fun _ hk => hk.2) (.slice Ao36 y348.length co36)) (fun _ hk => trivial)⟩, ⟨by (with_reducible repeat (first | apply Kd.R_alloc | apply Kd.R_drewN | apply Kd.R_drew)); exact Kd.R_mono (Kd.R_far (p := ⟨gb321, 4, none⟩) (Kd.R_types HO350.out BK321.out (by decide)) (fun _ hk => hk.2) (.slice Ao36 y348.length co36)) (fun _ hk => trivial)⟩, ⟨by (with_reducible repeat (first | refine blk_drewN ?_ _ | refine blk_drew ?_ | refine blk_alloc ?_ _)); refine blk_far ?_ NB320_321.out _; (with_reducible repeat (first | refine blk_drewN ?_ _ | refine blk_drew ?_ | refine blk_alloc ?_ _)); exact BK320.out⟩, ⟨by (with_reducible repeat (first | refine blk_drewN ?_ _ | refine blk_drew ?_ | refine blk_alloc ?_ _)); refine blk_put (cs := #[.int .u64 x322000_8, .int .i64 (wrap64 (t326)), .int .i64 (wrap64 (t330)), .slice Ao25 t334.length co25, u322004]) ?_ 4 _ rfl; (with_reducible repeat (first | refine blk_drewN ?_ _ | refine blk_drew ?_ | refine blk_alloc ?_ _)); exact BK321.out⟩, ⟨by repeat (first | (with_reducible first | exact HI0.out | apply IsS81.alloc | apply IsS81.drewN | apply IsS81.drew | apply IsS81.set_1 | apply IsS81.set_2 | apply IsS81.set_3 | refine IsS81.far ?_ NB0_320.out _ | refine IsS81.far ?_ NB0_321.out _) | exact HI0.out)⟩, ⟨by repeat (first | (with_reducible first | exact HK.out | apply KeepBut.set_ | apply keep_drewN | apply keep_drew | apply keep_alloc | refine keep_far ?_ GW320.out _ | refine keep_far ?_ GW321.out _) | exact HK.out)⟩, ⟨by repeat (first | (with_reducible first | exact HB.out | apply below_alloc | apply pw_below_drewN | apply below_drew1 | refine below_set ?_ (IsS81.ge HI0.out) | refine below_set ?_ GE320.out | refine below_set ?_ GE321.out) | exact HB.out)⟩⟩
         ·rw [if_neg c31] at H
          exact absurd H (by simp)
        ·rw [if_neg c29] at H
         have c29b0 : (x1002_3 == 0) = false := beq_eq_false_iff_ne.mpr c29
         have c29b1 : (x1002_3 != 0) = true := bne_iff_ne.mpr c29
         simp only [Option.some.injEq, Prod.mk.injEq] at H
         obtain ⟨rfl, rfl, rfl, rfl, rfl, rfl, rfl, rfl, rfl⟩ := H
         obtain ⟨ASz38_0, cSz38_0, HGz38, hgz38, HSz38_0⟩ := HI0.out
         have hcz38_0 := cellS81_0 HGz38
         have hcz38_1 := cellS81_1 HGz38
         have hcz38_2 := cellS81_2 HGz38
         have hcz38_3 := cellS81_3 HGz38
         have hfz38_1 := blk_frozen HGz38 1
         have hfz38_2 := blk_frozen HGz38 2
         have hfz38_3 := blk_frozen HGz38 3
         clear HGz38 hgz38
         have hnb39 := NB321_320.out
         have hnc39 := NB320_321.out
         have hnb40 := NB321_0.out
         have hnc40 := NB0_321.out
         have hcz41_0 : wr.cell? ⟨gb321, 0, none⟩ = some (.int .u64 x322000_8) := (blk_cell BK321.out 0).trans rfl
         have hcz41_1 : wr.cell? ⟨gb321, 1, none⟩ = some (.int .i64 (wrap64 (t326))) := (blk_cell BK321.out 1).trans rfl
         have hcz41_2 : wr.cell? ⟨gb321, 2, none⟩ = some (.int .i64 (wrap64 (t330))) := (blk_cell BK321.out 2).trans rfl
         have hcz41_3 : wr.cell? ⟨gb321, 3, none⟩ = some (.slice Ao25 t334.length co25) := (blk_cell BK321.out 3).trans rfl
         have hcz41_4 : wr.cell? ⟨gb321, 4, none⟩ = some (u322004) := (blk_cell BK321.out 4).trans rfl
         have hfz41_0 := blk_frozen BK321.out 0
         have hfz41_1 := blk_frozen BK321.out 1
         have hfz41_2 := blk_frozen BK321.out 2
         have hfz41_3 := blk_frozen BK321.out 3
         have hfz41_4 := blk_frozen BK321.out 4
         have hnb42 := NB320_0.out
         have hnc42 := NB0_320.out
         have hcz43_0 : wr.cell? ⟨gb320, 0, none⟩ = some (.int .u64 0) := (blk_cell BK320.out 0).trans rfl
         have hcz43_1 : wr.cell? ⟨gb320, 1, none⟩ = some (.int .i64 0) := (blk_cell BK320.out 1).trans rfl
         have hcz43_2 : wr.cell? ⟨gb320, 2, none⟩ = some (.int .i64 0) := (blk_cell BK320.out 2).trans rfl
         have hcz43_3 : wr.cell? ⟨gb320, 3, none⟩ = some (.slice none 0 0) := (blk_cell BK320.out 3).trans rfl
         have hcz43_4 : wr.cell? ⟨gb320, 4, none⟩ = some (.slice none 0 0) := (blk_cell BK320.out 4).trans rfl
         have hfz43_0 := blk_frozen BK320.out 0
         have hfz43_1 := blk_frozen BK320.out 1
         have hfz43_2 := blk_frozen BK320.out 2
         have hfz43_3 := blk_frozen BK320.out 3
         have hfz43_4 := blk_frozen BK320.out 4
         obtain ⟨Ao44, co44, eo44⟩ := Kd.R_slice HO_322004.out
         subst eo44
         go_wp2
         refine bodyPost_ret (results_ct rfl _ _ gb320 62 #[.int .u64 x322000_8, .int .i64 (wrap64 (t326)), .int .i64 (wrap64 (t330)), .slice Ao25 t334.length co25, .slice Ao44 x322004_3.length co44] (0, 0) _ rfl (by (with_reducible repeat (first | refine blk_drewN ?_ _ | refine blk_drew ?_ | refine blk_alloc ?_ _)); refine blk_put (cs := #[.int .u64 x322000_8, .int .i64 (wrap64 (t326)), .int .i64 (wrap64 (t330)), .slice Ao25 t334.length co25, .slice none 0 0]) ?_ 4 _ rfl; (with_reducible repeat (first | refine blk_drewN ?_ _ | refine blk_drew ?_ | refine blk_alloc ?_ _)); refine blk_put (cs := #[.int .u64 x322000_8, .int .i64 (wrap64 (t326)), .int .i64 (wrap64 (t330)), .slice none 0 0, .slice none 0 0]) ?_ 3 _ rfl; (with_reducible repeat (first | refine blk_drewN ?_ _ | refine blk_drew ?_ | refine blk_alloc ?_ _)); refine blk_put (cs := #[.int .u64 x322000_8, .int .i64 (wrap64 (t326)), .int .i64 0, .slice none 0 0, .slice none 0 0]) ?_ 2 _ rfl; (with_reducible repeat (first | refine blk_drewN ?_ _ | refine blk_drew ?_ | refine blk_alloc ?_ _)); refine blk_put (cs := #[.int .u64 x322000_8, .int .i64 0, .int .i64 0, .slice none 0 0, .slice none 0 0]) ?_ 1 _ rfl; (with_reducible repeat (first | refine blk_drewN ?_ _ | refine blk_drew ?_ | refine blk_alloc ?_ _)); refine blk_put (cs := #[.int .u64 0, .int .i64 0, .int .i64 0, .slice none 0 0, .slice none 0 0]) ?_ 0 _ rfl; (with_reducible repeat (first | refine blk_drewN ?_ _ | refine blk_drew ?_ | refine blk_alloc ?_ _)); exact BK320.out) Tryd.underlying62 rfl (by kernel_rfl)) rfl ?_
         exact ⟨_, _, by first | rfl | (simp [errW_none, errW_some] <;> rfl) | (simp [*, errW_none, errW_some] <;> rfl), by (with_reducible repeat (first | apply Kd.R_alloc | apply Kd.R_drewN | apply Kd.R_drew)); exact Kd.R_mono (Kd.R_far (p := ⟨gb320, 4, none⟩) (Kd.R_far (p := ⟨gb320, 3, none⟩) (Kd.R_far (p := ⟨gb320, 2, none⟩) (Kd.R_far (p := ⟨gb320, 1, none⟩) (Kd.R_far (p := ⟨gb320, 0, none⟩) (Kd.R_types HO_322003.out BK320.out (by decide)) (fun _ hk => hk.2) (.int .u64 x322000_8)) (fun _ hk => hk.2) (.int .i64 (wrap64 (t326)))) (fun _ hk => hk.2) (.int .i64 (wrap64 (t330)))) (fun _ hk => hk.2) (.slice Ao25 t334.length co25)) (fun _ hk => hk.2) (.slice Ao44 x322004_3.length co44)) (fun _ hk => trivial), by (with_reducible repeat (first | apply Kd.R_alloc | apply Kd.R_drewN | apply Kd.R_drew)); exact Kd.R_mono (Kd.R_far (p := ⟨gb320, 4, none⟩) (Kd.R_far (p := ⟨gb320, 3, none⟩) (Kd.R_far (p := ⟨gb320, 2, none⟩) (Kd.R_far (p := ⟨gb320, 1, none⟩) (Kd.R_far (p := ⟨gb320, 0, none⟩) (Kd.R_types HO_322004.out BK320.out (by decide)) (fun _ hk => hk.2) (.int .u64 x322000_8)) (fun _ hk => hk.2) (.int .i64 (wrap64 (t326)))) (fun _ hk => hk.2) (.int .i64 (wrap64 (t330)))) (fun _ hk => hk.2) (.slice Ao25 t334.length co25)) (fun _ hk => hk.2) (.slice Ao44 x322004_3.length co44)) (fun _ hk => trivial), by repeat (first | (with_reducible first | exact HI0.out | apply IsS81.alloc | apply IsS81.drewN | apply IsS81.drew | apply IsS81.set_1 | apply IsS81.set_2 | apply IsS81.set_3 | refine IsS81.far ?_ NB0_320.out _ | refine IsS81.far ?_ NB0_321.out _) | exact HI0.out), by repeat (first | (with_reducible first | exact HB.out | apply below_alloc | apply pw_below_drewN | apply below_drew1 | refine below_set ?_ (IsS81.ge HI0.out) | refine below_set ?_ GE320.out | refine below_set ?_ GE321.out) | exact HB.out), by repeat (first | (with_reducible first | exact HK.out | apply KeepBut.set_ | apply keep_drewN | apply keep_drew | apply keep_alloc | refine keep_far ?_ GW320.out _ | refine keep_far ?_ GW321.out _) | exact HK.out)⟩
       ·rw [if_neg c28] at H
        have c28b0 : decide (x10_3 < t340) = false := decide_eq_false c28
        clear c28
        simp only [Option.some.injEq, Prod.mk.injEq] at H
        obtain ⟨rfl, rfl, rfl, rfl, rfl, rfl, rfl, rfl, rfl⟩ := H
        have hnb45 := NB321_320.out
        have hnc45 := NB320_321.out
        have hnb46 := NB321_0.out
        have hnc46 := NB0_321.out
        have hcz47_0 : wr.cell? ⟨gb321, 0, none⟩ = some (.int .u64 x322000_8) := (blk_cell BK321.out 0).trans rfl
        have hcz47_1 : wr.cell? ⟨gb321, 1, none⟩ = some (.int .i64 (wrap64 (t326))) := (blk_cell BK321.out 1).trans rfl
        have hcz47_2 : wr.cell? ⟨gb321, 2, none⟩ = some (.int .i64 (wrap64 (t330))) := (blk_cell BK321.out 2).trans rfl
        have hcz47_3 : wr.cell? ⟨gb321, 3, none⟩ = some (.slice Ao25 t334.length co25) := (blk_cell BK321.out 3).trans rfl
        have hcz47_4 : wr.cell? ⟨gb321, 4, none⟩ = some (u322004) := (blk_cell BK321.out 4).trans rfl
        have hfz47_0 := blk_frozen BK321.out 0
        have hfz47_1 := blk_frozen BK321.out 1
        have hfz47_2 := blk_frozen BK321.out 2
        have hfz47_3 := blk_frozen BK321.out 3
        have hfz47_4 := blk_frozen BK321.out 4
        have hnb48 := NB320_0.out
        have hnc48 := NB0_320.out
        have hcz49_0 : wr.cell? ⟨gb320, 0, none⟩ = some (.int .u64 0) := (blk_cell BK320.out 0).trans rfl
        have hcz49_1 : wr.cell? ⟨gb320, 1, none⟩ = some (.int .i64 0) := (blk_cell BK320.out 1).trans rfl
        have hcz49_2 : wr.cell? ⟨gb320, 2, none⟩ = some (.int .i64 0) := (blk_cell BK320.out 2).trans rfl
        have hcz49_3 : wr.cell? ⟨gb320, 3, none⟩ = some (.slice none 0 0) := (blk_cell BK320.out 3).trans rfl
        have hcz49_4 : wr.cell? ⟨gb320, 4, none⟩ = some (.slice none 0 0) := (blk_cell BK320.out 4).trans rfl
        have hfz49_0 := blk_frozen BK320.out 0
        have hfz49_1 := blk_frozen BK320.out 1
        have hfz49_2 := blk_frozen BK320.out 2
        have hfz49_3 := blk_frozen BK320.out 3
        have hfz49_4 := blk_frozen BK320.out 4
        obtain ⟨Ao50, co50, eo50⟩ := Kd.R_slice HO_322004.out
        subst eo50
        go_wp2
        refine bodyPost_ret (results_ct rfl _ _ gb320 62 #[.int .u64 x322000_8, .int .i64 (wrap64 (t326)), .int .i64 (wrap64 (t330)), .slice Ao25 t334.length co25, .slice Ao50 x322004_3.length co50] (0, 0) _ rfl (by (with_reducible repeat (first | refine blk_drewN ?_ _ | refine blk_drew ?_ | refine blk_alloc ?_ _)); refine blk_put (cs := #[.int .u64 x322000_8, .int .i64 (wrap64 (t326)), .int .i64 (wrap64 (t330)), .slice Ao25 t334.length co25, .slice none 0 0]) ?_ 4 _ rfl; (with_reducible repeat (first | refine blk_drewN ?_ _ | refine blk_drew ?_ | refine blk_alloc ?_ _)); refine blk_put (cs := #[.int .u64 x322000_8, .int .i64 (wrap64 (t326)), .int .i64 (wrap64 (t330)), .slice none 0 0, .slice none 0 0]) ?_ 3 _ rfl; (with_reducible repeat (first | refine blk_drewN ?_ _ | refine blk_drew ?_ | refine blk_alloc ?_ _)); refine blk_put (cs := #[.int .u64 x322000_8, .int .i64 (wrap64 (t326)), .int .i64 0, .slice none 0 0, .slice none 0 0]) ?_ 2 _ rfl; (with_reducible repeat (first | refine blk_drewN ?_ _ | refine blk_drew ?_ | refine blk_alloc ?_ _)); refine blk_put (cs := #[.int .u64 x322000_8, .int .i64 0, .int .i64 0, .slice none 0 0, .slice none 0 0]) ?_ 1 _ rfl; (with_reducible repeat (first | refine blk_drewN ?_ _ | refine blk_drew ?_ | refine blk_alloc ?_ _)); refine blk_put (cs := #[.int .u64 0, .int .i64 0, .int .i64 0, .slice none 0 0, .slice none 0 0]) ?_ 0 _ rfl; (with_reducible repeat (first | refine blk_drewN ?_ _ | refine blk_drew ?_ | refine blk_alloc ?_ _)); exact BK320.out) Tryd.underlying62 rfl (by kernel_rfl)) rfl ?_
        exact ⟨_, _, by first | rfl | (simp [errW_none, errW_some] <;> rfl) | (simp [*, errW_none, errW_some] <;> rfl), by (with_reducible repeat (first | apply Kd.R_alloc | apply Kd.R_drewN | apply Kd.R_drew)); exact Kd.R_mono (Kd.R_far (p := ⟨gb320, 4, none⟩) (Kd.R_far (p := ⟨gb320, 3, none⟩) (Kd.R_far (p := ⟨gb320, 2, none⟩) (Kd.R_far (p := ⟨gb320, 1, none⟩) (Kd.R_far (p := ⟨gb320, 0, none⟩) (Kd.R_types HO_322003.out BK320.out (by decide)) (fun _ hk => hk.2) (.int .u64 x322000_8)) (fun _ hk => hk.2) (.int .i64 (wrap64 (t326)))) (fun _ hk => hk.2) (.int .i64 (wrap64 (t330)))) (fun _ hk => hk.2) (.slice Ao25 t334.length co25)) (fun _ hk => hk.2) (.slice Ao50 x322004_3.length co50)) (fun _ hk => trivial), by (with_reducible repeat (first | apply Kd.R_alloc | apply Kd.R_drewN | apply Kd.R_drew)); exact Kd.R_mono (Kd.R_far (p := ⟨gb320, 4, none⟩) (Kd.R_far (p := ⟨gb320, 3, none⟩) (Kd.R_far (p := ⟨gb320, 2, none⟩) (Kd.R_far (p := ⟨gb320, 1, none⟩) (Kd.R_far (p := ⟨gb320, 0, none⟩) (Kd.R_types HO_322004.out BK320.out (by decide)) (fun _ hk => hk.2) (.int .u64 x322000_8)) (fun _ hk => hk.2) (.int .i64 (wrap64 (t326)))) (fun _ hk => hk.2) (.int .i64 (wrap64 (t330)))) (fun _ hk => hk.2) (.slice Ao25 t334.length co25)) (fun _ hk => hk.2) (.slice Ao50 x322004_3.length co50)) (fun _ hk => trivial), by repeat (first | (with_reducible first | exact HI0.out | apply IsS81.alloc | apply IsS81.drewN | apply IsS81.drew | apply IsS81.set_1 | apply IsS81.set_2 | apply IsS81.set_3 | refine IsS81.far ?_ NB0_320.out _ | refine IsS81.far ?_ NB0_321.out _) | exact HI0.out), by repeat (first | (with_reducible first | exact HB.out | apply below_alloc | apply pw_below_drewN | apply below_drew1 | refine below_set ?_ (IsS81.ge HI0.out) | refine below_set ?_ GE320.out | refine below_set ?_ GE321.out) | exact HB.out), by repeat (first | (with_reducible first | exact HK.out | apply KeepBut.set_ | apply keep_drewN | apply keep_drew | apply keep_alloc | refine keep_far ?_ GW320.out _ | refine keep_far ?_ GW321.out _) | exact HK.out)⟩

end Go.Proofs.YtihjjkoddphmiaaDoor.PImageRound
