/-
  The walks of (*Book).markIntLists and its kin.
-/
import Derived.Test.YtihjjkoddphmiaaGreatDoorNBkX
namespace Go.Proofs.YtihjjkoddphmiaaGreatDoor.bk
open Go.RowKit Go.Proofs.YtihjjkoddphmiaaGreatDoorW.PrintWords Go.Proofs.YtihjjkoddphmiaaGreatDoorW.PrintLast Go.Proofs.YtihjjkoddphmiaaGreatDoorW.PrintMore Go.Proofs.YtihjjkoddphmiaaGreatDoor.PImageApart
set_option linter.unusedVariables false
set_option linter.unusedSimpArgs false

section
variable {m : Nat → Prop} {w : World} {bk R : Nat} {s : Nat → Option Bl} {V : Nat → Value} {X : Nat → List Value} {d : Int}
set_option maxHeartbeats 8000000 in
set_option maxRecDepth 100000 in
theorem mark_intLists (h : All m w bk s V X R d) : Calls Tryz.prog 104 #[.pointer (some ⟨bk, 0, none⟩)] w (Done m w bk R d) := by
 have hK := h.ks 9 (by simp [live])
 obtain ⟨n, hn⟩ : ∃ n, n = (X 87).length := ⟨_, rfl⟩
 have hl16 : (X 88).length = n := hK.ki.wn.trans hn.symm
 have hl18 : (X 90).length = n := hK.m1.trans hn.symm
 have hl19 : (X 91).length = n := hK.m2.trans hn.symm
 have hnn : n ≤ 1099511627776 := by rw [hn]; exact (h.lens (q := 9) (by simp [live])).2.2.1
 obtain ⟨A15, c15, h15⟩ := h.sh.slice (j := 87) (by decide)
 obtain ⟨A16, c16, h16⟩ := h.sh.slice (j := 88) (by decide)
 obtain ⟨A18, c18, h18⟩ := h.sh.slice (j := 90) (by decide)
 obtain ⟨A19, c19, h19⟩ := h.sh.slice (j := 91) (by decide)
 rw [← hn] at h15
 rw [hl16] at h16
 rw [hl18] at h18
 rw [hl19] at h19
 have k15 := (h.sh.cell (j := 87) (by decide)).trans (congrArg some h15)
 have k16 := (h.sh.cell (j := 88) (by decide)).trans (congrArg some h16)
 have k18 := (h.sh.cell (j := 90) (by decide)).trans (congrArg some h18)
 have k19 := (h.sh.cell (j := 91) (by decide)).trans (congrArg some h19)
 have f15 := h.sh.frozen 87
 have f16 := h.sh.frozen 88
 have f18 := h.sh.frozen 90
 have f19 := h.sh.frozen 91
 have HA := Aside0.mk h
 by_cases hn0 : n = 0
 ·subst hn0
  clear h hK hn hl16 hl18 hl19 h15 h16 h18 h19
  go_enter Tryz.func104, Tryz.ntmps104
  go_wp2
  refine bodyPost_ret (results_none rfl _ _ _) rfl ?_
  exact ⟨rfl, Fr.refl _ _, s, V, X, HA.out⟩
 have hi0 : ((n : Int) == 0) = false := by simp; omega
 obtain ⟨t0, ht0⟩ := h.v2
 obtain ⟨b15, rfl⟩ : ∃ b, A15 = some ⟨b, 0, none⟩ := by
  obtain ⟨b, c, e, -⟩ := h.sh.rcell (j := 87) (by decide) (List.getElem?_eq_getElem (show 0 < (X 87).length by omega))
  rw [h15] at e; injection e with e; exact ⟨b, e⟩
 obtain ⟨b16, rfl⟩ : ∃ b, A16 = some ⟨b, 0, none⟩ := by
  obtain ⟨b, c, e, -⟩ := h.sh.rcell (j := 88) (by decide) (List.getElem?_eq_getElem (show 0 < (X 88).length by omega))
  rw [h16] at e; injection e with e; exact ⟨b, e⟩
 obtain ⟨b18, rfl⟩ : ∃ b, A18 = some ⟨b, 0, none⟩ := by
  obtain ⟨b, c, e, -⟩ := h.sh.rcell (j := 90) (by decide) (List.getElem?_eq_getElem (show 0 < (X 90).length by omega))
  rw [h18] at e; injection e with e; exact ⟨b, e⟩
 obtain ⟨b19, rfl⟩ : ∃ b, A19 = some ⟨b, 0, none⟩ := by
  obtain ⟨b, c, e, -⟩ := h.sh.rcell (j := 91) (by decide) (List.getElem?_eq_getElem (show 0 < (X 91).length by omega))
  rw [h19] at e; injection e with e; exact ⟨b, e⟩
 have HM0 := Aside0.mk (Mq.start h (q := 9) (by simp [live]))
 have HH := Aside0.mk (And.intro h15 (And.intro h16 (And.intro h18 (And.intro h19 (And.intro hn (And.intro hl16 (And.intro hl18 hl19)))))))
 clear h hK h15 h16 h18 h19 hl16 hl18 hl19 hn
 go_enter Tryz.func104, Tryz.ntmps104
 go_upto_region 6 with (fail)
 refine img.wp_world (p := fun wx => Aside0 (∃ V' X', Mq m w bk 9 R s V X 0 s V' X' wx)) HM0 ?_
 clear HM0 k15 k16 k18 k19 f15 f16 f18 f19
 rintro w1 HM0
 go_wp2_with (fail)
 go_loopw [6] (fun i wr => ∃ k : Nat, k ≤ n ∧ i = .int .i64 k ∧ Aside0 (∃ s1 V1 X1, Mq m w bk 9 R s V X k s1 V1 X1 wr)) (fun i _ => n - (intOf i).toNat)
 case atStart => exact ⟨0, Nat.zero_le _, rfl, ⟨s, HM0.out⟩⟩
 case round =>
  clear HM0
  obtain ⟨k, hk, rfl, HM⟩ := hrel
  obtain ⟨s1, V1, X1, hm⟩ := HM.out
  clear HM
  by_cases hlt : k < n
  ·obtain ⟨v, hv⟩ : ∃ v, (X 87)[k]? = some v := ⟨_, List.getElem?_eq_getElem (by have := HH.out.2.2.2.2.1; omega)⟩
   obtain ⟨u, hu⟩ : ∃ u, (X 88)[k]? = some u := ⟨_, List.getElem?_eq_getElem (by have := HH.out.2.2.2.2.2.1; omega)⟩
   obtain ⟨x, hx⟩ : ∃ x, (X 90)[k]? = some x := ⟨_, List.getElem?_eq_getElem (by have := HH.out.2.2.2.2.2.2.1; omega)⟩
   obtain ⟨y, hy⟩ : ∃ y, (X 91)[k]? = some y := ⟨_, List.getElem?_eq_getElem (by have := HH.out.2.2.2.2.2.2.2; omega)⟩
   obtain ⟨a, rfl⟩ := (HA.out.ks 9 (by simp [live])).n1 x (List.mem_of_getElem? hx)
   obtain ⟨b, rfl⟩ := (HA.out.ks 9 (by simp [live])).n2 y (List.mem_of_getElem? hy)
   have hwe := hm.ki.we v (List.mem_append_right _ (by rw [drop_cons hv]; exact List.mem_cons_self ..))
   have hwp : Pr s1 9 (· = 1) (2 ≤ ·) v u := by
    have h7 := hm.l7
    refine hm.ki.wp (X1 87).length v u ?_ ?_
    ·rw [List.getElem?_append_right (Nat.le_refl _), Nat.sub_self, List.getElem?_drop]; exact hv
    ·rw [List.getElem?_append_right (by show (X1 88).length ≤ _; exact Nat.le_of_eq h7), show (X1 87).length - (X1 (7 + 9 * 9)).length = 0 by rw [h7]; exact Nat.sub_self _, List.getElem?_drop]; exact hu
   have HPR := Aside0.mk hwp
   obtain ⟨A, nl, c, L, hvl⟩ := hwe.vl
   obtain ⟨-, B, nu, -, cu, -, rfl, -⟩ := hwp
   obtain ⟨rfl, hL⟩ := hm.sh.vl hm.ty hvl
   have r15 := hm.sh.vcell (j := 287) (by decide) (hm.c2.1.trans HH.out.1) ((congrArg (·[k]?) hm.c2.2).trans hv)
   have r16 := hm.sh.vcell (j := 288) (by decide) (hm.c3.1.trans HH.out.2.1) ((congrArg (·[k]?) hm.c3.2).trans hu)
   have r18 := hm.sh.vcell (j := 290) (by decide) (hm.c5.1.trans HH.out.2.2.1) ((congrArg (·[k]?) hm.c5.2).trans hx)
   have r19 := hm.sh.vcell (j := 291) (by decide) (hm.c6.1.trans HH.out.2.2.2.1) ((congrArg (·[k]?) hm.c6.2).trans hy)
   have k2 := (hm.sh.cell (j := 2) (by decide)).trans (congrArg some ((hm.rest 2 (by decide) (by decide)).1.trans ht0))
   have HM := Aside0.mk hm
   have hm3 : Aside0 (V1 288 = V 88 ∧ X1 288 = X 88) := ⟨hm.c3⟩
   have hm6 : Aside0 (V1 291 = V 91 ∧ X1 291 = X 91) := ⟨hm.c6⟩
   clear hm
   go_upto_region 11 with (fail)
   go_quiet (fail)
   have HRW := Aside0.mk (And.intro hv (And.intro hu (And.intro hx hy)))
   have hML : Aside0 ((X1 85).length ≤ 1099511627776 ∧ (X1 86).length ≤ 1099511627776 ∧ (X1 87).length ≤ 1099511627776 ∧ (X1 88).length ≤ 1099511627776 ∧ (X1 89).length ≤ 1099511627776 ∧ (X1 90).length ≤ 1099511627776 ∧ (X1 91).length ≤ 1099511627776 ∧ (X1 92).length ≤ 1099511627776) := ⟨HM.out.lens HA.out.rb⟩
   have HVL := Aside0.mk hvl
   have HLL := Aside0.mk hL
   clear hv hu hx hy hwe hvl hL
   by_cases hd : t0 < b
   ·go_upto_region 12 with (fail)
    refine img.wp_world (p := fun wx => Aside0 (Mq m w bk 9 R s V X k s1 V1 X1 wx)) ⟨HM.out.still (grown_drewN wr nq)⟩ ?_
    clear HM r15 r16 r18 r19 k2
    rintro w2 HM
    obtain ⟨A2, c2, e2⟩ := HM.out.sh.slice (j := 87) (by decide)
    have q15 := (HM.out.sh.cell (j := 87) (by decide)).trans (congrArg some e2)
    have l15 : ((X1 87).length + 1) * 24 ≤ 140737488355328 := by have := hML.out; omega
    go_wp2_with (at_builtin; refine push_row HM.out.sh 87 (by decide) (by decide) (by decide) rfl (.tmp 68) (.tmp 70) 34 (.slice none 0 0) 24 rfl Tryz.underlying34 i26 rfl (by decide) e2.symm rfl rfl l15 ?_; intro A1 c1 w3 V2 X2 HP zc zf)
    refine img.wp_world (p := fun wx => Aside0 (V2 = upd V1 87 (.slice A1 ((X1 87).length + 1) c1) ∧ X2 = upd X1 87 (X1 87 ++ [.slice A nl c]) ∧ Sh m wx bk s1 V2 X2 ∧ Fr m w2 wx)) HP ?_
    clear HP zc zf q15 l15 e2
    rintro w4 HP
    go_cut [] from 74 to 86 (fun wx => ∃ v3 V3 X3, Aside0 (V3 = upd V2 88 v3 ∧ X3 = upd X2 88 (X2 88 ++ [.slice B nu cu]) ∧ Sh m wx bk s1 V3 X3 ∧ Fr m w2 wx))
    case first =>
     obtain ⟨A3, c3, e3⟩ := HP.out.2.2.1.slice (j := 88) (by decide)
     have q16 := (HP.out.2.2.1.cell (j := 88) (by decide)).trans (congrArg some e3)
     have q16a := ((HP.out.2.2.1.still (grown_alloc w4 (.cells #[.slice B nu cu] 26))).cell (j := 88) (by decide)).trans (congrArg some e3)
     have r16 : w4.cell? ⟨b16, k, none⟩ = some (.slice B nu cu) := HP.out.2.2.1.vcell (j := 288) (by decide) (by rw [HP.out.1, upd_ne _ _ (by decide)]; exact hm3.out.1.trans HH.out.2.1) (by rw [HP.out.2.1, upd_ne _ _ (by decide)]; exact (congrArg (·[k]?) hm3.out.2).trans HRW.out.2.1)
     have l16 : ((X2 88).length + 1) * 24 ≤ 140737488355328 := by rw [HP.out.2.1, upd_ne _ _ (by decide)]; have := hML.out; omega
     go_region_law (refine push_step (HP.out.2.2.1.still (grown_drew w4)) 88 (by decide) (by decide) (by decide) (by rfl) (.tmp 78) (.tmp 83) 34 (.slice none 0 0) 24 (by rfl) Tryz.underlying34 i26 rfl (by decide) e3.symm (by rfl) rfl l16 ?_; intro A4 c4 w5 V3 X3 HQ zc zf)
     all_goals
      go_wp2_with (fail)
      go_meet
      exact ⟨_, V3, X3, ⟨HQ.out.1, HQ.out.2.1, HQ.out.2.2.1, HP.out.2.2.2.then_ ((HP.out.2.2.1.frS (grown_drew w4)).then_ HQ.out.2.2.2)⟩⟩
    case rest =>
     obtain ⟨v3, V3, X3, HQ⟩ := hcut
     obtain ⟨A5, c5, e5⟩ := HQ.out.2.2.1.slice (j := 90) (by decide)
     have q18 := (HQ.out.2.2.1.cell (j := 90) (by decide)).trans (congrArg some e5)
     have l18 : ((X3 90).length + 1) * 8 ≤ 140737488355328 := by rw [HQ.out.2.1, upd_ne _ _ (by decide), HP.out.2.1, upd_ne _ _ (by decide)]; have := hML.out; omega
     go_wp2_with (at_builtin; refine push_row HQ.out.2.2.1 90 (by decide) (by decide) (by decide) rfl (.tmp 91) (.tmp 93) 25 (.int .i64 0) 8 rfl Tryz.underlying25 i3 rfl (by decide) e5.symm rfl rfl l18 ?_; intro A6 c6 w6 V4 X4 HS zc zf)
     refine img.wp_world (p := fun wx => Aside0 (V4 = upd V3 90 (.slice A6 ((X3 90).length + 1) c6) ∧ X4 = upd X3 90 (X3 90 ++ [.int .i64 a]) ∧ Sh m wx bk s1 V4 X4 ∧ Fr m w2 wx)) ⟨HS.out.1, HS.out.2.1, HS.out.2.2.1, HQ.out.2.2.2.then_ HS.out.2.2.2⟩ ?_
     clear HS zc zf q18 l18 e5
     rintro w7 HS
     go_cut [] from 97 to 109 (fun wx => ∃ v5 V5 X5, Aside0 (V5 = upd V4 91 v5 ∧ X5 = upd X4 91 (X4 91 ++ [.int .i64 b]) ∧ Sh m wx bk s1 V5 X5 ∧ Fr m w2 wx))
     case first =>
      obtain ⟨A3, c3, e3⟩ := HS.out.2.2.1.slice (j := 91) (by decide)
      have q19 := (HS.out.2.2.1.cell (j := 91) (by decide)).trans (congrArg some e3)
      have q19a := ((HS.out.2.2.1.still (grown_alloc w7 (.cells #[.int .i64 b] 3))).cell (j := 91) (by decide)).trans (congrArg some e3)
      have r19 : w7.cell? ⟨b19, k, none⟩ = some (.int .i64 b) := HS.out.2.2.1.vcell (j := 291) (by decide) (by rw [HS.out.1, upd_ne _ _ (by decide), HQ.out.1, upd_ne _ _ (by decide), HP.out.1, upd_ne _ _ (by decide)]; exact hm6.out.1.trans HH.out.2.2.2.1) (by rw [HS.out.2.1, upd_ne _ _ (by decide), HQ.out.2.1, upd_ne _ _ (by decide), HP.out.2.1, upd_ne _ _ (by decide)]; exact (congrArg (·[k]?) hm6.out.2).trans HRW.out.2.2.2)
      have l19 : ((X4 91).length + 1) * 8 ≤ 140737488355328 := by rw [HS.out.2.1, upd_ne _ _ (by decide), HQ.out.2.1, upd_ne _ _ (by decide), HP.out.2.1, upd_ne _ _ (by decide)]; have := hML.out; omega
      go_region_law (refine push_step (HS.out.2.2.1.still (grown_drew w7)) 91 (by decide) (by decide) (by decide) (by rfl) (.tmp 101) (.tmp 106) 25 (.int .i64 0) 8 (by rfl) Tryz.underlying25 i3 rfl (by decide) e3.symm (by rfl) rfl l19 ?_; intro A4 c4 w8 V5 X5 HT zc zf)
      all_goals
       go_wp2_with (fail)
       go_meet
       exact ⟨_, V5, X5, ⟨HT.out.1, HT.out.2.1, HT.out.2.2.1, HS.out.2.2.2.then_ ((HS.out.2.2.1.frS (grown_drew w7)).then_ HT.out.2.2.2)⟩⟩
     case rest =>
      obtain ⟨v5, V5, X5, HT⟩ := hcut
      have HZ : Aside0 (Mq m w bk 9 R s V X (k + 1) s1 V5 X5 wc) := ⟨by
       refine HM.out.wait (by decide) HRW.out.1 HRW.out.2.1 HT.out.2.2.1 (chain4 HP.out.2.1 HQ.out.2.1 HS.out.2.1 HT.out.2.1 (by decide) (by decide) (by decide)) (fun j h1 h2 h3 h4 => ?_) HT.out.2.2.2
       rw [HT.out.1, upd_ne _ _ h4, HS.out.1, upd_ne _ _ h3, HQ.out.1, upd_ne _ _ h2, HP.out.1, upd_ne _ _ h1]⟩
      clear HM HP HQ HS HT
      go_wp2_with (fail)
      go_roundw
      case rel => exact ⟨k + 1, by omega, by go_num, ⟨s1, V5, X5, HZ.out⟩⟩
      case measure => simp [intOf]; omega
   ·have k1 := (HM.out.sh.cell (j := 1) (by decide)).trans (congrArg some ((HM.out.rest 1 (by decide) (by decide)).1.trans HA.out.v1))
    have k0 := (HM.out.sh.cell (j := 0) (by decide)).trans (congrArg some ((HM.out.rest 0 (by decide) (by decide)).1.trans HA.out.v0))
    have HK01 := Aside0.mk (And.intro k0 k1)
    clear k0 k1
    go_upto_region 16 with (fail)
    refine img.wp_world (p := fun wx => Aside0 (Mq m w bk 9 R s V X k s1 V1 X1 wx)) ⟨HM.out.still (grown_drewN wr nq)⟩ ?_
    clear HM r15 r16 r18 r19 k2 HK01
    rintro w2 HM
    have k1 := (HM.out.sh.cell (j := 1) (by decide)).trans (congrArg some ((HM.out.rest 1 (by decide) (by decide)).1.trans HA.out.v1))
    have k0 := (HM.out.sh.cell (j := 0) (by decide)).trans (congrArg some ((HM.out.rest 0 (by decide) (by decide)).1.trans HA.out.v0))
    have f1 := HM.out.sh.frozen 1
    have r16 := HM.out.sh.vcell (j := 288) (by decide) (hm3.out.1.trans HH.out.2.1) ((congrArg (·[k]?) hm3.out.2).trans HRW.out.2.1)
    have HS := Aside0.mk (sg_intLists _ _ w2 (HPR.out.q9 HM.out.sh HM.out.ty))
    go_upto_region 17 with (first | (go_at_call 86; refine HS.out.mono ?_; rintro en w3 ⟨rfl, hg3⟩; have HM3 := Aside0.mk (HM.out.still hg3); have k13 := (HM3.out.sh.cell (j := 1) (by decide)).trans (congrArg some ((HM3.out.rest 1 (by decide) (by decide)).1.trans HA.out.v1)); have f13 := HM3.out.sh.frozen 1; have ee := img.setCell_id k13))
    clear HS k0 k1 f1 r16 ee k13 f13 hg3 HM
    have HM := HM3
    clear HM3
    have HW := Aside0.mk (Wq.start HM.out.sh HM.out.ty HVL.out)
    have hnl : nl ≤ 1099511627776 := HLL.out.2.2.2.2.2.1
    go_wp2_with (fail)
    go_loopw [9] (fun i wx => ∃ j : Nat, j ≤ nl ∧ i = .int .i64 j ∧ Aside0 (∃ s2 L2, Wq m bk 9 1 s1 V1 X1 w3 (.slice A nl c) A nl c s2 L2 wx)) (fun i _ => nl - (intOf i).toNat)
    case atStart => exact ⟨0, Nat.zero_le _, rfl, ⟨s1, L, HW.out⟩⟩
    case round =>
     clear HW
     obtain ⟨j, hj, rfl, HW⟩ := hrel
     obtain ⟨s2, L2, hw⟩ := HW.out
     clear HW
     by_cases hjl : j < nl
     ·obtain ⟨ka, rfl⟩ := hw.blk (by omega)
      obtain ⟨z, hz, fz⟩ := hw.at rfl (i := j) (by simpa [esz] using hjl)
      have hb : wr.grownBy (wr.alloc (.cells #[.int .i64 (wrap64 (a + 3 * (j : Int)))] 3)) none := grown_alloc _ _
      have HW1 := Aside0.mk (hw.new (k := wr.heap.size) (g := ⟨1, 3, 1, 1, [.int .i64 (wrap64 (a + 3 * (j : Int)))]⟩) (Nat.le_refl _) hb ⟨rfl, .inr ⟨_, 1, _, rfl, Nat.zero_le _, heap_alloc_new wr _, Nat.le_refl _, by decide, rfl, rfl⟩⟩ (one_int _ _))
      obtain ⟨z2, hz2, fz2⟩ := HW1.out.at rfl (i := j) (by simpa [esz] using hjl)
      have HW2 := Aside0.mk (HW1.out.set rfl (by decide) hjl (x := .slice (some ⟨wr.heap.size, 0, none⟩) 1 1) ⟨_, rfl, rds_new _ _ rfl (Nat.le_refl 1)⟩ rfl)
      clear hw hb
      go_wp2_with (fail)
      go_roundw
      case rel => exact ⟨j + 1, by omega, by go_num, ⟨HW2.out⟩⟩
      case measure => simp [intOf]; omega
     ·obtain rfl : nl = j := by omega
      obtain ⟨w4, rfl⟩ : ∃ w4, w4 = wr := ⟨_, rfl⟩
      have HL := Aside0.mk (hw.sh.vl hw.ty hw.vl).2
      have HW := Aside0.mk hw
      clear hw
      obtain ⟨A13, c13, e13⟩ := HW.out.sh.slice (j := 85) (by decide)
      have q13 := (HW.out.sh.cell (j := 85) (by decide)).trans (congrArg some e13)
      have l13 : ((X1 85).length + 1) * 24 ≤ 140737488355328 := by have := hML.out; omega
      go_wp2_with (at_builtin; refine push_row HW.out.sh 85 (by decide) (by decide) (by decide) rfl (.tmp 151) (.tmp 153) 34 (.slice none 0 0) 24 rfl Tryz.underlying34 i26 rfl (by decide) e13.symm rfl rfl l13 ?_; intro A1 c1 w5 V2 X2 HP zc zf)
      refine img.wp_world (p := fun wx => Aside0 (V2 = upd V1 85 (.slice A1 ((X1 85).length + 1) c1) ∧ X2 = upd X1 85 (X1 85 ++ [.slice A nl c]) ∧ Sh m wx bk s2 V2 X2 ∧ Fr m w3 wx)) ⟨HP.out.1, HP.out.2.1, HP.out.2.2.1, HW.out.fr.then_ HP.out.2.2.2⟩ ?_
      clear HP zc zf q13 l13 e13
      rintro w6 HP
      go_cut [] from 157 to 168 (fun wx => ∃ kc cc v3 V3 X3, Aside0 (s2 kc = none ∧ V3 = upd V2 86 v3 ∧ X3 = upd X2 86 (X2 86 ++ [.slice (some ⟨kc, 0, none⟩) nl cc]) ∧ Sh m wx bk (upd s2 kc (some ⟨9, 3, nl, cc, L2⟩)) V3 X3 ∧ Fr m w3 wx))
      case first =>
       obtain ⟨A14, c14, e14⟩ := HP.out.2.2.1.slice (j := 86) (by decide)
       have l14 : ((X2 86).length + 1) * 24 ≤ 140737488355328 := by rw [HP.out.2.1, upd_ne _ _ (by decide)]; have := hML.out; omega
       have q14 := (HP.out.2.2.1.cell (j := 86) (by decide)).trans (congrArg some e14)
       have q14a := ((HP.out.2.2.1.still (grown_alloc w6 (.cells #[] 25))).cell (j := 86) (by decide)).trans (congrArg some e14)
       have HC := Aside0.mk (((HP.out.2.2.1.still (grown_drew w6)).still (grown_alloc w6.drew (.cells #[] 25))).vl HW.out.ty HW.out.vl).2.2.2.2.1
       go_region_law (first
        | (refine copy_step (by rfl) (.tmp 162) (.tmp 163) 26 25 (.slice none 0 0) 1 24 (by rfl) Tryz.underlying26 i25 rfl (by decide) w6.heap.size (by rfl) A nl c (by rfl) (World.ownsRow_made w6.drew #[] 0 (Nat.zero_le _) (by decide) rfl) L2 HL.out.1 HL.out.2.1 HL.out.2.2.1 HC.out HL.out.2.2.2.2.1 HL.out.2.2.2.2.2.1 (by have := HL.out.2.2.2.2.2.1; omega) ?_; intro kc cc w7 HC3; have HS3 := Aside0.mk (copied (q := 9) HP.out.2.2.1 rfl HC3.out); have q14c := (HS3.out.2.1.cell (j := 86) (by decide)).trans (congrArg some e14); have q14e := ((HS3.out.2.1.still (grown_alloc w7 (.cells #[.slice (some ⟨kc, 0, none⟩) nl cc] 26))).cell (j := 86) (by decide)).trans (congrArg some e14))
        | (refine push_step HS3.out.2.1 86 (by decide) (by decide) (by decide) (by rfl) (.tmp 161) (.tmp 165) 34 (.slice none 0 0) 24 (by rfl) Tryz.underlying34 i26 rfl (by decide) e14.symm (by rfl) rfl l14 ?_; intro A2 c2 w8 V3 X3 HQ zc zf))
       all_goals
        go_wp2_with (fail)
        go_meet
        exact ⟨kc, cc, _, V3, X3, ⟨HS3.out.1, HQ.out.1, HQ.out.2.1, HQ.out.2.2.1, (HP.out.2.2.2.then_ HS3.out.2.2).then_ HQ.out.2.2.2⟩⟩
      case rest =>
       obtain ⟨kc, cc, v3, V3, X3, HQ⟩ := hcut
       obtain ⟨A17, c17, e17⟩ := HQ.out.2.2.2.1.slice (j := 89) (by decide)
       have q17 := (HQ.out.2.2.2.1.cell (j := 89) (by decide)).trans (congrArg some e17)
       have l17 : ((X3 89).length + 1) * 24 ≤ 140737488355328 := by rw [HQ.out.2.2.1, upd_ne _ _ (by decide), HP.out.2.1, upd_ne _ _ (by decide)]; have := hML.out; omega
       go_upto_region 24 with (at_builtin; refine push_row HQ.out.2.2.2.1 89 (by decide) (by decide) (by decide) rfl (.tmp 173) (.tmp 175) 34 (.slice none 0 0) 24 rfl Tryz.underlying34 i26 rfl (by decide) e17.symm rfl rfl l17 ?_; intro A3 c3 w9 V4 X4 HS zc zf)
       refine img.wp_world (p := fun wx => Aside0 (V4 = upd V3 89 (.slice A3 ((X3 89).length + 1) c3) ∧ X4 = upd X3 89 (X3 89 ++ [.slice A nl c]) ∧ Sh m wx bk (upd s2 kc (some ⟨9, 3, nl, cc, L2⟩)) V4 X4 ∧ Fr m w3 wx)) ⟨HS.out.1, HS.out.2.1, HS.out.2.2.1, HQ.out.2.2.2.2.then_ HS.out.2.2.2⟩ ?_
       clear HS zc zf q17 l17 e17
       rintro w10 HS
       obtain ⟨A20, c20, e20⟩ := HS.out.2.2.1.slice (j := 92) (by decide)
       have q20 := (HS.out.2.2.1.cell (j := 92) (by decide)).trans (congrArg some e20)
       have l20 : ((X4 92).length + 1) * 8 ≤ 140737488355328 := by rw [HS.out.2.1, upd_ne _ _ (by decide), HQ.out.2.2.1, upd_ne _ _ (by decide), HP.out.2.1, upd_ne _ _ (by decide)]; have := hML.out; omega
       go_wp2_with (at_builtin; refine push_row HS.out.2.2.1 92 (by decide) (by decide) (by decide) rfl (.tmp 183) (.tmp 185) 25 (.int .i64 0) 8 rfl Tryz.underlying25 i3 rfl (by decide) e20.symm rfl rfl l20 ?_; intro A4 c4 w11 V5 X5 HT zc zf)
       have HZ := Aside0.mk (HM.out.mark (by decide) HRW.out.1 HRW.out.2.1 HW.out.vl HW.out.ty HW.out.old HQ.out.1 HT.out.2.2.1 (chain4 HP.out.2.1 HQ.out.2.2.1 HS.out.2.1 HT.out.2.1 (by decide) (by decide) (by decide)) (fun j h1 h2 h3 h4 => by
        rw [HT.out.1, upd_ne _ _ h4, HS.out.1, upd_ne _ _ h3, HQ.out.2.1, upd_ne _ _ h2, HP.out.1, upd_ne _ _ h1]) (HS.out.2.2.2.then_ HT.out.2.2.2))
       clear HM HP HQ HS HT HW HL zc zf q20 l20 e20
       go_roundw
       case rel => exact ⟨k + 1, by omega, by go_num, ⟨by obtain ⟨s3, h3⟩ := HZ.out; exact ⟨s3, V5, X5, h3⟩⟩⟩
       case measure => simp [intOf]; omega
  ·obtain rfl : n = k := by omega
   have HF := Aside0.mk (hm.fin HA.out (by simp [live]) (Nat.le_of_eq HH.out.2.2.2.2.1.symm))
   have HR := Aside0.mk hm.fr
   clear hm
   go_wp2_with (fail)
   go_end0
   exact ⟨rfl, HR.out, s1, V1, X1, HF.out⟩
set_option maxHeartbeats 8000000 in
set_option maxRecDepth 100000 in
theorem mark_frames (h : All m w bk s V X R d) : Calls Tryz.prog 106 #[.pointer (some ⟨bk, 0, none⟩)] w (Done m w bk R d) := by
 have hK := h.ks 11 (by simp [live])
 obtain ⟨n, hn⟩ : ∃ n, n = (X 105).length := ⟨_, rfl⟩
 have hl16 : (X 106).length = n := hK.ki.wn.trans hn.symm
 have hl18 : (X 108).length = n := hK.m1.trans hn.symm
 have hl19 : (X 109).length = n := hK.m2.trans hn.symm
 have hnn : n ≤ 1099511627776 := by rw [hn]; exact (h.lens (q := 11) (by simp [live])).2.2.1
 obtain ⟨A15, c15, h15⟩ := h.sh.slice (j := 105) (by decide)
 obtain ⟨A16, c16, h16⟩ := h.sh.slice (j := 106) (by decide)
 obtain ⟨A18, c18, h18⟩ := h.sh.slice (j := 108) (by decide)
 obtain ⟨A19, c19, h19⟩ := h.sh.slice (j := 109) (by decide)
 rw [← hn] at h15
 rw [hl16] at h16
 rw [hl18] at h18
 rw [hl19] at h19
 have k15 := (h.sh.cell (j := 105) (by decide)).trans (congrArg some h15)
 have k16 := (h.sh.cell (j := 106) (by decide)).trans (congrArg some h16)
 have k18 := (h.sh.cell (j := 108) (by decide)).trans (congrArg some h18)
 have k19 := (h.sh.cell (j := 109) (by decide)).trans (congrArg some h19)
 have f15 := h.sh.frozen 105
 have f16 := h.sh.frozen 106
 have f18 := h.sh.frozen 108
 have f19 := h.sh.frozen 109
 have HA := Aside0.mk h
 by_cases hn0 : n = 0
 ·subst hn0
  clear h hK hn hl16 hl18 hl19 h15 h16 h18 h19
  go_enter Tryz.func106, Tryz.ntmps106
  go_wp2
  refine bodyPost_ret (results_none rfl _ _ _) rfl ?_
  exact ⟨rfl, Fr.refl _ _, s, V, X, HA.out⟩
 have hi0 : ((n : Int) == 0) = false := by simp; omega
 obtain ⟨t0, ht0⟩ := h.v2
 obtain ⟨b15, rfl⟩ : ∃ b, A15 = some ⟨b, 0, none⟩ := by
  obtain ⟨b, c, e, -⟩ := h.sh.rcell (j := 105) (by decide) (List.getElem?_eq_getElem (show 0 < (X 105).length by omega))
  rw [h15] at e; injection e with e; exact ⟨b, e⟩
 obtain ⟨b16, rfl⟩ : ∃ b, A16 = some ⟨b, 0, none⟩ := by
  obtain ⟨b, c, e, -⟩ := h.sh.rcell (j := 106) (by decide) (List.getElem?_eq_getElem (show 0 < (X 106).length by omega))
  rw [h16] at e; injection e with e; exact ⟨b, e⟩
 obtain ⟨b18, rfl⟩ : ∃ b, A18 = some ⟨b, 0, none⟩ := by
  obtain ⟨b, c, e, -⟩ := h.sh.rcell (j := 108) (by decide) (List.getElem?_eq_getElem (show 0 < (X 108).length by omega))
  rw [h18] at e; injection e with e; exact ⟨b, e⟩
 obtain ⟨b19, rfl⟩ : ∃ b, A19 = some ⟨b, 0, none⟩ := by
  obtain ⟨b, c, e, -⟩ := h.sh.rcell (j := 109) (by decide) (List.getElem?_eq_getElem (show 0 < (X 109).length by omega))
  rw [h19] at e; injection e with e; exact ⟨b, e⟩
 have HM0 := Aside0.mk (Mq.start h (q := 11) (by simp [live]))
 have HH := Aside0.mk (And.intro h15 (And.intro h16 (And.intro h18 (And.intro h19 (And.intro hn (And.intro hl16 (And.intro hl18 hl19)))))))
 clear h hK h15 h16 h18 h19 hl16 hl18 hl19 hn
 go_enter Tryz.func106, Tryz.ntmps106
 go_upto_region 6 with (fail)
 refine img.wp_world (p := fun wx => Aside0 (∃ V' X', Mq m w bk 11 R s V X 0 s V' X' wx)) HM0 ?_
 clear HM0 k15 k16 k18 k19 f15 f16 f18 f19
 rintro w1 HM0
 go_wp2_with (fail)
 go_loopw [6] (fun i wr => ∃ k : Nat, k ≤ n ∧ i = .int .i64 k ∧ Aside0 (∃ s1 V1 X1, Mq m w bk 11 R s V X k s1 V1 X1 wr)) (fun i _ => n - (intOf i).toNat)
 case atStart => exact ⟨0, Nat.zero_le _, rfl, ⟨s, HM0.out⟩⟩
 case round =>
  clear HM0
  obtain ⟨k, hk, rfl, HM⟩ := hrel
  obtain ⟨s1, V1, X1, hm⟩ := HM.out
  clear HM
  by_cases hlt : k < n
  ·obtain ⟨v, hv⟩ : ∃ v, (X 105)[k]? = some v := ⟨_, List.getElem?_eq_getElem (by have := HH.out.2.2.2.2.1; omega)⟩
   obtain ⟨u, hu⟩ : ∃ u, (X 106)[k]? = some u := ⟨_, List.getElem?_eq_getElem (by have := HH.out.2.2.2.2.2.1; omega)⟩
   obtain ⟨x, hx⟩ : ∃ x, (X 108)[k]? = some x := ⟨_, List.getElem?_eq_getElem (by have := HH.out.2.2.2.2.2.2.1; omega)⟩
   obtain ⟨y, hy⟩ : ∃ y, (X 109)[k]? = some y := ⟨_, List.getElem?_eq_getElem (by have := HH.out.2.2.2.2.2.2.2; omega)⟩
   obtain ⟨a, rfl⟩ := (HA.out.ks 11 (by simp [live])).n1 x (List.mem_of_getElem? hx)
   obtain ⟨b, rfl⟩ := (HA.out.ks 11 (by simp [live])).n2 y (List.mem_of_getElem? hy)
   have hwe := hm.ki.we v (List.mem_append_right _ (by rw [drop_cons hv]; exact List.mem_cons_self ..))
   have hwp : Pr s1 11 (· = 1) (2 ≤ ·) v u := by
    have h7 := hm.l7
    refine hm.ki.wp (X1 105).length v u ?_ ?_
    ·rw [List.getElem?_append_right (Nat.le_refl _), Nat.sub_self, List.getElem?_drop]; exact hv
    ·rw [List.getElem?_append_right (by show (X1 106).length ≤ _; exact Nat.le_of_eq h7), show (X1 105).length - (X1 (7 + 9 * 11)).length = 0 by rw [h7]; exact Nat.sub_self _, List.getElem?_drop]; exact hu
   have HPR := Aside0.mk hwp
   obtain ⟨A, nl, c, L, hvl⟩ := hwe.vl
   obtain ⟨-, B, nu, -, cu, -, rfl, -⟩ := hwp
   obtain ⟨rfl, hL⟩ := hm.sh.vl hm.ty hvl
   have r15 := hm.sh.vcell (j := 305) (by decide) (hm.c2.1.trans HH.out.1) ((congrArg (·[k]?) hm.c2.2).trans hv)
   have r16 := hm.sh.vcell (j := 306) (by decide) (hm.c3.1.trans HH.out.2.1) ((congrArg (·[k]?) hm.c3.2).trans hu)
   have r18 := hm.sh.vcell (j := 308) (by decide) (hm.c5.1.trans HH.out.2.2.1) ((congrArg (·[k]?) hm.c5.2).trans hx)
   have r19 := hm.sh.vcell (j := 309) (by decide) (hm.c6.1.trans HH.out.2.2.2.1) ((congrArg (·[k]?) hm.c6.2).trans hy)
   have k2 := (hm.sh.cell (j := 2) (by decide)).trans (congrArg some ((hm.rest 2 (by decide) (by decide)).1.trans ht0))
   have HM := Aside0.mk hm
   have hm3 : Aside0 (V1 306 = V 106 ∧ X1 306 = X 106) := ⟨hm.c3⟩
   have hm6 : Aside0 (V1 309 = V 109 ∧ X1 309 = X 109) := ⟨hm.c6⟩
   clear hm
   go_upto_region 11 with (fail)
   go_quiet (fail)
   have HRW := Aside0.mk (And.intro hv (And.intro hu (And.intro hx hy)))
   have hML : Aside0 ((X1 103).length ≤ 1099511627776 ∧ (X1 104).length ≤ 1099511627776 ∧ (X1 105).length ≤ 1099511627776 ∧ (X1 106).length ≤ 1099511627776 ∧ (X1 107).length ≤ 1099511627776 ∧ (X1 108).length ≤ 1099511627776 ∧ (X1 109).length ≤ 1099511627776 ∧ (X1 110).length ≤ 1099511627776) := ⟨HM.out.lens HA.out.rb⟩
   have HVL := Aside0.mk hvl
   have HLL := Aside0.mk hL
   clear hv hu hx hy hwe hvl hL
   by_cases hd : t0 < b
   ·go_upto_region 12 with (fail)
    refine img.wp_world (p := fun wx => Aside0 (Mq m w bk 11 R s V X k s1 V1 X1 wx)) ⟨HM.out.still (grown_drewN wr nq)⟩ ?_
    clear HM r15 r16 r18 r19 k2
    rintro w2 HM
    obtain ⟨A2, c2, e2⟩ := HM.out.sh.slice (j := 105) (by decide)
    have q15 := (HM.out.sh.cell (j := 105) (by decide)).trans (congrArg some e2)
    have l15 : ((X1 105).length + 1) * 24 ≤ 140737488355328 := by have := hML.out; omega
    go_wp2_with (at_builtin; refine push_row HM.out.sh 105 (by decide) (by decide) (by decide) rfl (.tmp 68) (.tmp 70) 36 (.slice none 0 0) 24 rfl Tryz.underlying36 i34 rfl (by decide) e2.symm rfl rfl l15 ?_; intro A1 c1 w3 V2 X2 HP zc zf)
    refine img.wp_world (p := fun wx => Aside0 (V2 = upd V1 105 (.slice A1 ((X1 105).length + 1) c1) ∧ X2 = upd X1 105 (X1 105 ++ [.slice A nl c]) ∧ Sh m wx bk s1 V2 X2 ∧ Fr m w2 wx)) HP ?_
    clear HP zc zf q15 l15 e2
    rintro w4 HP
    go_cut [] from 74 to 86 (fun wx => ∃ v3 V3 X3, Aside0 (V3 = upd V2 106 v3 ∧ X3 = upd X2 106 (X2 106 ++ [.slice B nu cu]) ∧ Sh m wx bk s1 V3 X3 ∧ Fr m w2 wx))
    case first =>
     obtain ⟨A3, c3, e3⟩ := HP.out.2.2.1.slice (j := 106) (by decide)
     have q16 := (HP.out.2.2.1.cell (j := 106) (by decide)).trans (congrArg some e3)
     have q16a := ((HP.out.2.2.1.still (grown_alloc w4 (.cells #[.slice B nu cu] 34))).cell (j := 106) (by decide)).trans (congrArg some e3)
     have r16 : w4.cell? ⟨b16, k, none⟩ = some (.slice B nu cu) := HP.out.2.2.1.vcell (j := 306) (by decide) (by rw [HP.out.1, upd_ne _ _ (by decide)]; exact hm3.out.1.trans HH.out.2.1) (by rw [HP.out.2.1, upd_ne _ _ (by decide)]; exact (congrArg (·[k]?) hm3.out.2).trans HRW.out.2.1)
     have l16 : ((X2 106).length + 1) * 24 ≤ 140737488355328 := by rw [HP.out.2.1, upd_ne _ _ (by decide)]; have := hML.out; omega
     go_region_law (refine push_step (HP.out.2.2.1.still (grown_drew w4)) 106 (by decide) (by decide) (by decide) (by rfl) (.tmp 78) (.tmp 83) 36 (.slice none 0 0) 24 (by rfl) Tryz.underlying36 i34 rfl (by decide) e3.symm (by rfl) rfl l16 ?_; intro A4 c4 w5 V3 X3 HQ zc zf)
     all_goals
      go_wp2_with (fail)
      go_meet
      exact ⟨_, V3, X3, ⟨HQ.out.1, HQ.out.2.1, HQ.out.2.2.1, HP.out.2.2.2.then_ ((HP.out.2.2.1.frS (grown_drew w4)).then_ HQ.out.2.2.2)⟩⟩
    case rest =>
     obtain ⟨v3, V3, X3, HQ⟩ := hcut
     obtain ⟨A5, c5, e5⟩ := HQ.out.2.2.1.slice (j := 108) (by decide)
     have q18 := (HQ.out.2.2.1.cell (j := 108) (by decide)).trans (congrArg some e5)
     have l18 : ((X3 108).length + 1) * 8 ≤ 140737488355328 := by rw [HQ.out.2.1, upd_ne _ _ (by decide), HP.out.2.1, upd_ne _ _ (by decide)]; have := hML.out; omega
     go_wp2_with (at_builtin; refine push_row HQ.out.2.2.1 108 (by decide) (by decide) (by decide) rfl (.tmp 91) (.tmp 93) 25 (.int .i64 0) 8 rfl Tryz.underlying25 i3 rfl (by decide) e5.symm rfl rfl l18 ?_; intro A6 c6 w6 V4 X4 HS zc zf)
     refine img.wp_world (p := fun wx => Aside0 (V4 = upd V3 108 (.slice A6 ((X3 108).length + 1) c6) ∧ X4 = upd X3 108 (X3 108 ++ [.int .i64 a]) ∧ Sh m wx bk s1 V4 X4 ∧ Fr m w2 wx)) ⟨HS.out.1, HS.out.2.1, HS.out.2.2.1, HQ.out.2.2.2.then_ HS.out.2.2.2⟩ ?_
     clear HS zc zf q18 l18 e5
     rintro w7 HS
     go_cut [] from 97 to 109 (fun wx => ∃ v5 V5 X5, Aside0 (V5 = upd V4 109 v5 ∧ X5 = upd X4 109 (X4 109 ++ [.int .i64 b]) ∧ Sh m wx bk s1 V5 X5 ∧ Fr m w2 wx))
     case first =>
      obtain ⟨A3, c3, e3⟩ := HS.out.2.2.1.slice (j := 109) (by decide)
      have q19 := (HS.out.2.2.1.cell (j := 109) (by decide)).trans (congrArg some e3)
      have q19a := ((HS.out.2.2.1.still (grown_alloc w7 (.cells #[.int .i64 b] 3))).cell (j := 109) (by decide)).trans (congrArg some e3)
      have r19 : w7.cell? ⟨b19, k, none⟩ = some (.int .i64 b) := HS.out.2.2.1.vcell (j := 309) (by decide) (by rw [HS.out.1, upd_ne _ _ (by decide), HQ.out.1, upd_ne _ _ (by decide), HP.out.1, upd_ne _ _ (by decide)]; exact hm6.out.1.trans HH.out.2.2.2.1) (by rw [HS.out.2.1, upd_ne _ _ (by decide), HQ.out.2.1, upd_ne _ _ (by decide), HP.out.2.1, upd_ne _ _ (by decide)]; exact (congrArg (·[k]?) hm6.out.2).trans HRW.out.2.2.2)
      have l19 : ((X4 109).length + 1) * 8 ≤ 140737488355328 := by rw [HS.out.2.1, upd_ne _ _ (by decide), HQ.out.2.1, upd_ne _ _ (by decide), HP.out.2.1, upd_ne _ _ (by decide)]; have := hML.out; omega
      go_region_law (refine push_step (HS.out.2.2.1.still (grown_drew w7)) 109 (by decide) (by decide) (by decide) (by rfl) (.tmp 101) (.tmp 106) 25 (.int .i64 0) 8 (by rfl) Tryz.underlying25 i3 rfl (by decide) e3.symm (by rfl) rfl l19 ?_; intro A4 c4 w8 V5 X5 HT zc zf)
      all_goals
       go_wp2_with (fail)
       go_meet
       exact ⟨_, V5, X5, ⟨HT.out.1, HT.out.2.1, HT.out.2.2.1, HS.out.2.2.2.then_ ((HS.out.2.2.1.frS (grown_drew w7)).then_ HT.out.2.2.2)⟩⟩
     case rest =>
      obtain ⟨v5, V5, X5, HT⟩ := hcut
      have HZ : Aside0 (Mq m w bk 11 R s V X (k + 1) s1 V5 X5 wc) := ⟨by
       refine HM.out.wait (by decide) HRW.out.1 HRW.out.2.1 HT.out.2.2.1 (chain4 HP.out.2.1 HQ.out.2.1 HS.out.2.1 HT.out.2.1 (by decide) (by decide) (by decide)) (fun j h1 h2 h3 h4 => ?_) HT.out.2.2.2
       rw [HT.out.1, upd_ne _ _ h4, HS.out.1, upd_ne _ _ h3, HQ.out.1, upd_ne _ _ h2, HP.out.1, upd_ne _ _ h1]⟩
      clear HM HP HQ HS HT
      go_wp2_with (fail)
      go_roundw
      case rel => exact ⟨k + 1, by omega, by go_num, ⟨s1, V5, X5, HZ.out⟩⟩
      case measure => simp [intOf]; omega
   ·have k1 := (HM.out.sh.cell (j := 1) (by decide)).trans (congrArg some ((HM.out.rest 1 (by decide) (by decide)).1.trans HA.out.v1))
    have k0 := (HM.out.sh.cell (j := 0) (by decide)).trans (congrArg some ((HM.out.rest 0 (by decide) (by decide)).1.trans HA.out.v0))
    have HK01 := Aside0.mk (And.intro k0 k1)
    clear k0 k1
    go_upto_region 16 with (fail)
    refine img.wp_world (p := fun wx => Aside0 (Mq m w bk 11 R s V X k s1 V1 X1 wx)) ⟨HM.out.still (grown_drewN wr nq)⟩ ?_
    clear HM r15 r16 r18 r19 k2 HK01
    rintro w2 HM
    have k1 := (HM.out.sh.cell (j := 1) (by decide)).trans (congrArg some ((HM.out.rest 1 (by decide) (by decide)).1.trans HA.out.v1))
    have k0 := (HM.out.sh.cell (j := 0) (by decide)).trans (congrArg some ((HM.out.rest 0 (by decide) (by decide)).1.trans HA.out.v0))
    have f1 := HM.out.sh.frozen 1
    have r16 := HM.out.sh.vcell (j := 306) (by decide) (hm3.out.1.trans HH.out.2.1) ((congrArg (·[k]?) hm3.out.2).trans HRW.out.2.1)
    have HS := Aside0.mk (sg_frames _ _ w2 (HPR.out.q11 HM.out.sh HM.out.ty))
    go_upto_region 17 with (first | (go_at_call 88; refine HS.out.mono ?_; rintro en w3 ⟨rfl, hg3⟩; have HM3 := Aside0.mk (HM.out.still hg3); have k13 := (HM3.out.sh.cell (j := 1) (by decide)).trans (congrArg some ((HM3.out.rest 1 (by decide) (by decide)).1.trans HA.out.v1)); have f13 := HM3.out.sh.frozen 1; have ee := img.setCell_id k13))
    clear HS k0 k1 f1 r16 ee k13 f13 hg3 HM
    have HM := HM3
    clear HM3
    have HW := Aside0.mk (Wq.start HM.out.sh HM.out.ty HVL.out)
    have hnl : nl ≤ 1099511627776 := HLL.out.2.2.2.2.2.1
    go_wp2_with (fail)
    go_loopw [9] (fun i wx => ∃ j : Nat, j ≤ nl ∧ i = .int .i64 j ∧ Aside0 (∃ s2 L2, Wq m bk 11 1 s1 V1 X1 w3 (.slice A nl c) A nl c s2 L2 wx)) (fun i _ => nl - (intOf i).toNat)
    case atStart => exact ⟨0, Nat.zero_le _, rfl, ⟨s1, L, HW.out⟩⟩
    case round =>
     clear HW
     obtain ⟨j, hj, rfl, HW⟩ := hrel
     obtain ⟨s2, L2, hw⟩ := HW.out
     clear HW
     by_cases hjl : j < nl
     ·obtain ⟨ka, rfl⟩ := hw.blk (by omega)
      obtain ⟨z, hz, fz⟩ := hw.at rfl (i := j) (by simpa [esz] using hjl)
      obtain ⟨wa, hwa⟩ : ∃ wa, wa = wr.alloc (.cells #[.int .i64 (wrap64 (a + 3 * (j : Int)))] 3) := ⟨_, rfl⟩
      have hsz : wa.heap.size = wr.heap.size + 1 := by rw [hwa]; simp
      have HW1 := Aside0.mk (hw.new (w1 := wa) (k := wr.heap.size) (g := ⟨1, 3, 1, 1, [.int .i64 (wrap64 (a + 3 * (j : Int)))]⟩) (Nat.le_refl _) (by rw [hwa]; exact grown_alloc _ _) ⟨rfl, .inr ⟨_, 1, _, rfl, Nat.zero_le _, by rw [hwa]; exact heap_alloc_new wr _, Nat.le_refl _, by decide, rfl, rfl⟩⟩ (one_int _ _))
      have HW3 := Aside0.mk (HW1.out.new (w1 := wa.alloc (.cells #[.slice (some ⟨wr.heap.size, 0, none⟩) 1 1] 25)) (k := wa.heap.size) (g := ⟨9, 3, 1, 1, [.slice (some ⟨wr.heap.size, 0, none⟩) 1 1]⟩) (Nat.le_refl _) (grown_alloc _ _) ⟨rfl, .inr ⟨_, 1, _, rfl, Nat.zero_le _, heap_alloc_new wa _, Nat.le_refl _, by decide, rfl, rfl⟩⟩ (one_list _ (rds_new _ _ rfl (Nat.le_refl 1))))
      obtain ⟨z2, hz2, fz2⟩ := HW3.out.at rfl (i := j) (by simpa [esz] using hjl)
      have HW2 := Aside0.mk (HW3.out.set rfl (by decide) hjl (x := .slice (some ⟨wa.heap.size, 0, none⟩) 1 1) ⟨_, rfl, rds_new _ _ rfl (Nat.le_refl 1)⟩ rfl)
      rw [hwa] at HW2 hz2 fz2
      rw [show (wr.alloc (.cells #[.int .i64 (wrap64 (a + 3 * (j : Int)))] 3)).heap.size = wr.heap.size + 1 by simp] at HW2
      clear hw HW1 HW3 hwa hsz
      go_wp2_with (fail)
      go_roundw
      case rel => exact ⟨j + 1, by omega, by go_num, ⟨HW2.out⟩⟩
      case measure => simp [intOf]; omega
     ·obtain rfl : nl = j := by omega
      obtain ⟨w4, rfl⟩ : ∃ w4, w4 = wr := ⟨_, rfl⟩
      have HL := Aside0.mk (hw.sh.vl hw.ty hw.vl).2
      have HW := Aside0.mk hw
      clear hw
      obtain ⟨A13, c13, e13⟩ := HW.out.sh.slice (j := 103) (by decide)
      have q13 := (HW.out.sh.cell (j := 103) (by decide)).trans (congrArg some e13)
      have l13 : ((X1 103).length + 1) * 24 ≤ 140737488355328 := by have := hML.out; omega
      go_wp2_with (at_builtin; refine push_row HW.out.sh 103 (by decide) (by decide) (by decide) rfl (.tmp 152) (.tmp 154) 36 (.slice none 0 0) 24 rfl Tryz.underlying36 i34 rfl (by decide) e13.symm rfl rfl l13 ?_; intro A1 c1 w5 V2 X2 HP zc zf)
      refine img.wp_world (p := fun wx => Aside0 (V2 = upd V1 103 (.slice A1 ((X1 103).length + 1) c1) ∧ X2 = upd X1 103 (X1 103 ++ [.slice A nl c]) ∧ Sh m wx bk s2 V2 X2 ∧ Fr m w3 wx)) ⟨HP.out.1, HP.out.2.1, HP.out.2.2.1, HW.out.fr.then_ HP.out.2.2.2⟩ ?_
      clear HP zc zf q13 l13 e13
      rintro w6 HP
      go_cut [] from 158 to 169 (fun wx => ∃ kc cc v3 V3 X3, Aside0 (s2 kc = none ∧ V3 = upd V2 104 v3 ∧ X3 = upd X2 104 (X2 104 ++ [.slice (some ⟨kc, 0, none⟩) nl cc]) ∧ Sh m wx bk (upd s2 kc (some ⟨11, 3, nl, cc, L2⟩)) V3 X3 ∧ Fr m w3 wx))
      case first =>
       obtain ⟨A14, c14, e14⟩ := HP.out.2.2.1.slice (j := 104) (by decide)
       have l14 : ((X2 104).length + 1) * 24 ≤ 140737488355328 := by rw [HP.out.2.1, upd_ne _ _ (by decide)]; have := hML.out; omega
       have q14 := (HP.out.2.2.1.cell (j := 104) (by decide)).trans (congrArg some e14)
       have q14a := ((HP.out.2.2.1.still (grown_alloc w6 (.cells #[] 26))).cell (j := 104) (by decide)).trans (congrArg some e14)
       have HC := Aside0.mk (((HP.out.2.2.1.still (grown_drew w6)).still (grown_alloc w6.drew (.cells #[] 26))).vl HW.out.ty HW.out.vl).2.2.2.2.1
       go_region_law (first
        | (refine copy_step (by rfl) (.tmp 163) (.tmp 164) 34 26 (.slice none 0 0) 1 24 (by rfl) Tryz.underlying34 i26 rfl (by decide) w6.heap.size (by rfl) A nl c (by rfl) (World.ownsRow_made w6.drew #[] 0 (Nat.zero_le _) (by decide) rfl) L2 HL.out.1 HL.out.2.1 HL.out.2.2.1 HC.out HL.out.2.2.2.2.1 HL.out.2.2.2.2.2.1 (by have := HL.out.2.2.2.2.2.1; omega) ?_; intro kc cc w7 HC3; have HS3 := Aside0.mk (copied (q := 11) HP.out.2.2.1 rfl HC3.out); have q14c := (HS3.out.2.1.cell (j := 104) (by decide)).trans (congrArg some e14); have q14e := ((HS3.out.2.1.still (grown_alloc w7 (.cells #[.slice (some ⟨kc, 0, none⟩) nl cc] 34))).cell (j := 104) (by decide)).trans (congrArg some e14))
        | (refine push_step HS3.out.2.1 104 (by decide) (by decide) (by decide) (by rfl) (.tmp 162) (.tmp 166) 36 (.slice none 0 0) 24 (by rfl) Tryz.underlying36 i34 rfl (by decide) e14.symm (by rfl) rfl l14 ?_; intro A2 c2 w8 V3 X3 HQ zc zf))
       all_goals
        go_wp2_with (fail)
        go_meet
        exact ⟨kc, cc, _, V3, X3, ⟨HS3.out.1, HQ.out.1, HQ.out.2.1, HQ.out.2.2.1, (HP.out.2.2.2.then_ HS3.out.2.2).then_ HQ.out.2.2.2⟩⟩
      case rest =>
       obtain ⟨kc, cc, v3, V3, X3, HQ⟩ := hcut
       obtain ⟨A17, c17, e17⟩ := HQ.out.2.2.2.1.slice (j := 107) (by decide)
       have q17 := (HQ.out.2.2.2.1.cell (j := 107) (by decide)).trans (congrArg some e17)
       have l17 : ((X3 107).length + 1) * 24 ≤ 140737488355328 := by rw [HQ.out.2.2.1, upd_ne _ _ (by decide), HP.out.2.1, upd_ne _ _ (by decide)]; have := hML.out; omega
       go_upto_region 24 with (at_builtin; refine push_row HQ.out.2.2.2.1 107 (by decide) (by decide) (by decide) rfl (.tmp 174) (.tmp 176) 36 (.slice none 0 0) 24 rfl Tryz.underlying36 i34 rfl (by decide) e17.symm rfl rfl l17 ?_; intro A3 c3 w9 V4 X4 HS zc zf)
       refine img.wp_world (p := fun wx => Aside0 (V4 = upd V3 107 (.slice A3 ((X3 107).length + 1) c3) ∧ X4 = upd X3 107 (X3 107 ++ [.slice A nl c]) ∧ Sh m wx bk (upd s2 kc (some ⟨11, 3, nl, cc, L2⟩)) V4 X4 ∧ Fr m w3 wx)) ⟨HS.out.1, HS.out.2.1, HS.out.2.2.1, HQ.out.2.2.2.2.then_ HS.out.2.2.2⟩ ?_
       clear HS zc zf q17 l17 e17
       rintro w10 HS
       obtain ⟨A20, c20, e20⟩ := HS.out.2.2.1.slice (j := 110) (by decide)
       have q20 := (HS.out.2.2.1.cell (j := 110) (by decide)).trans (congrArg some e20)
       have l20 : ((X4 110).length + 1) * 8 ≤ 140737488355328 := by rw [HS.out.2.1, upd_ne _ _ (by decide), HQ.out.2.2.1, upd_ne _ _ (by decide), HP.out.2.1, upd_ne _ _ (by decide)]; have := hML.out; omega
       go_wp2_with (at_builtin; refine push_row HS.out.2.2.1 110 (by decide) (by decide) (by decide) rfl (.tmp 184) (.tmp 186) 25 (.int .i64 0) 8 rfl Tryz.underlying25 i3 rfl (by decide) e20.symm rfl rfl l20 ?_; intro A4 c4 w11 V5 X5 HT zc zf)
       have HZ := Aside0.mk (HM.out.mark (by decide) HRW.out.1 HRW.out.2.1 HW.out.vl HW.out.ty HW.out.old HQ.out.1 HT.out.2.2.1 (chain4 HP.out.2.1 HQ.out.2.2.1 HS.out.2.1 HT.out.2.1 (by decide) (by decide) (by decide)) (fun j h1 h2 h3 h4 => by
        rw [HT.out.1, upd_ne _ _ h4, HS.out.1, upd_ne _ _ h3, HQ.out.2.1, upd_ne _ _ h2, HP.out.1, upd_ne _ _ h1]) (HS.out.2.2.2.then_ HT.out.2.2.2))
       clear HM HP HQ HS HT HW HL zc zf q20 l20 e20
       go_roundw
       case rel => exact ⟨k + 1, by omega, by go_num, ⟨by obtain ⟨s3, h3⟩ := HZ.out; exact ⟨s3, V5, X5, h3⟩⟩⟩
       case measure => simp [intOf]; omega
  ·obtain rfl : n = k := by omega
   have HF := Aside0.mk (hm.fin HA.out (by simp [live]) (Nat.le_of_eq HH.out.2.2.2.2.1.symm))
   have HR := Aside0.mk hm.fr
   clear hm
   go_wp2_with (fail)
   go_end0
   exact ⟨rfl, HR.out, s1, V1, X1, HF.out⟩
set_option maxHeartbeats 8000000 in
set_option maxRecDepth 100000 in
theorem mark_objects (h : All m w bk s V X R d) : Calls Tryz.prog 107 #[.pointer (some ⟨bk, 0, none⟩)] w (Done m w bk R d) := by
 have hK := h.ks 12 (by simp [live])
 obtain ⟨n, hn⟩ : ∃ n, n = (X 114).length := ⟨_, rfl⟩
 have hl16 : (X 115).length = n := hK.ki.wn.trans hn.symm
 have hl18 : (X 117).length = n := hK.m1.trans hn.symm
 have hl19 : (X 118).length = n := hK.m2.trans hn.symm
 have hnn : n ≤ 1099511627776 := by rw [hn]; exact (h.lens (q := 12) (by simp [live])).2.2.1
 obtain ⟨A15, c15, h15⟩ := h.sh.slice (j := 114) (by decide)
 obtain ⟨A16, c16, h16⟩ := h.sh.slice (j := 115) (by decide)
 obtain ⟨A18, c18, h18⟩ := h.sh.slice (j := 117) (by decide)
 obtain ⟨A19, c19, h19⟩ := h.sh.slice (j := 118) (by decide)
 rw [← hn] at h15
 rw [hl16] at h16
 rw [hl18] at h18
 rw [hl19] at h19
 have k15 := (h.sh.cell (j := 114) (by decide)).trans (congrArg some h15)
 have k16 := (h.sh.cell (j := 115) (by decide)).trans (congrArg some h16)
 have k18 := (h.sh.cell (j := 117) (by decide)).trans (congrArg some h18)
 have k19 := (h.sh.cell (j := 118) (by decide)).trans (congrArg some h19)
 have f15 := h.sh.frozen 114
 have f16 := h.sh.frozen 115
 have f18 := h.sh.frozen 117
 have f19 := h.sh.frozen 118
 have HA := Aside0.mk h
 by_cases hn0 : n = 0
 ·subst hn0
  clear h hK hn hl16 hl18 hl19 h15 h16 h18 h19
  go_enter Tryz.func107, Tryz.ntmps107
  go_wp2
  refine bodyPost_ret (results_none rfl _ _ _) rfl ?_
  exact ⟨rfl, Fr.refl _ _, s, V, X, HA.out⟩
 have hi0 : ((n : Int) == 0) = false := by simp; omega
 obtain ⟨t0, ht0⟩ := h.v2
 obtain ⟨b15, rfl⟩ : ∃ b, A15 = some ⟨b, 0, none⟩ := by
  obtain ⟨b, c, e, -⟩ := h.sh.rcell (j := 114) (by decide) (List.getElem?_eq_getElem (show 0 < (X 114).length by omega))
  rw [h15] at e; injection e with e; exact ⟨b, e⟩
 obtain ⟨b16, rfl⟩ : ∃ b, A16 = some ⟨b, 0, none⟩ := by
  obtain ⟨b, c, e, -⟩ := h.sh.rcell (j := 115) (by decide) (List.getElem?_eq_getElem (show 0 < (X 115).length by omega))
  rw [h16] at e; injection e with e; exact ⟨b, e⟩
 obtain ⟨b18, rfl⟩ : ∃ b, A18 = some ⟨b, 0, none⟩ := by
  obtain ⟨b, c, e, -⟩ := h.sh.rcell (j := 117) (by decide) (List.getElem?_eq_getElem (show 0 < (X 117).length by omega))
  rw [h18] at e; injection e with e; exact ⟨b, e⟩
 obtain ⟨b19, rfl⟩ : ∃ b, A19 = some ⟨b, 0, none⟩ := by
  obtain ⟨b, c, e, -⟩ := h.sh.rcell (j := 118) (by decide) (List.getElem?_eq_getElem (show 0 < (X 118).length by omega))
  rw [h19] at e; injection e with e; exact ⟨b, e⟩
 have HM0 := Aside0.mk (Mq.start h (q := 12) (by simp [live]))
 have HH := Aside0.mk (And.intro h15 (And.intro h16 (And.intro h18 (And.intro h19 (And.intro hn (And.intro hl16 (And.intro hl18 hl19)))))))
 clear h hK h15 h16 h18 h19 hl16 hl18 hl19 hn
 go_enter Tryz.func107, Tryz.ntmps107
 go_upto_region 6 with (fail)
 refine img.wp_world (p := fun wx => Aside0 (∃ V' X', Mq m w bk 12 R s V X 0 s V' X' wx)) HM0 ?_
 clear HM0 k15 k16 k18 k19 f15 f16 f18 f19
 rintro w1 HM0
 go_wp2_with (fail)
 go_loopw [6] (fun i wr => ∃ k : Nat, k ≤ n ∧ i = .int .i64 k ∧ Aside0 (∃ s1 V1 X1, Mq m w bk 12 R s V X k s1 V1 X1 wr)) (fun i _ => n - (intOf i).toNat)
 case atStart => exact ⟨0, Nat.zero_le _, rfl, ⟨s, HM0.out⟩⟩
 case round =>
  clear HM0
  obtain ⟨k, hk, rfl, HM⟩ := hrel
  obtain ⟨s1, V1, X1, hm⟩ := HM.out
  clear HM
  by_cases hlt : k < n
  ·obtain ⟨v, hv⟩ : ∃ v, (X 114)[k]? = some v := ⟨_, List.getElem?_eq_getElem (by have := HH.out.2.2.2.2.1; omega)⟩
   obtain ⟨u, hu⟩ : ∃ u, (X 115)[k]? = some u := ⟨_, List.getElem?_eq_getElem (by have := HH.out.2.2.2.2.2.1; omega)⟩
   obtain ⟨x, hx⟩ : ∃ x, (X 117)[k]? = some x := ⟨_, List.getElem?_eq_getElem (by have := HH.out.2.2.2.2.2.2.1; omega)⟩
   obtain ⟨y, hy⟩ : ∃ y, (X 118)[k]? = some y := ⟨_, List.getElem?_eq_getElem (by have := HH.out.2.2.2.2.2.2.2; omega)⟩
   obtain ⟨a, rfl⟩ := (HA.out.ks 12 (by simp [live])).n1 x (List.mem_of_getElem? hx)
   obtain ⟨b, rfl⟩ := (HA.out.ks 12 (by simp [live])).n2 y (List.mem_of_getElem? hy)
   have hwe := hm.ki.we v (List.mem_append_right _ (by rw [drop_cons hv]; exact List.mem_cons_self ..))
   have hwp : Pr s1 12 (· = 1) (2 ≤ ·) v u := by
    have h7 := hm.l7
    refine hm.ki.wp (X1 114).length v u ?_ ?_
    ·rw [List.getElem?_append_right (Nat.le_refl _), Nat.sub_self, List.getElem?_drop]; exact hv
    ·rw [List.getElem?_append_right (by show (X1 115).length ≤ _; exact Nat.le_of_eq h7), show (X1 114).length - (X1 (7 + 9 * 12)).length = 0 by rw [h7]; exact Nat.sub_self _, List.getElem?_drop]; exact hu
   have HPR := Aside0.mk hwp
   obtain ⟨A, nl, c, L, hvl⟩ := hwe.vl
   obtain ⟨-, B, nu, -, cu, -, rfl, -⟩ := hwp
   obtain ⟨rfl, hL⟩ := hm.sh.vl hm.ty hvl
   have r15 := hm.sh.vcell (j := 314) (by decide) (hm.c2.1.trans HH.out.1) ((congrArg (·[k]?) hm.c2.2).trans hv)
   have r16 := hm.sh.vcell (j := 315) (by decide) (hm.c3.1.trans HH.out.2.1) ((congrArg (·[k]?) hm.c3.2).trans hu)
   have r18 := hm.sh.vcell (j := 317) (by decide) (hm.c5.1.trans HH.out.2.2.1) ((congrArg (·[k]?) hm.c5.2).trans hx)
   have r19 := hm.sh.vcell (j := 318) (by decide) (hm.c6.1.trans HH.out.2.2.2.1) ((congrArg (·[k]?) hm.c6.2).trans hy)
   have k2 := (hm.sh.cell (j := 2) (by decide)).trans (congrArg some ((hm.rest 2 (by decide) (by decide)).1.trans ht0))
   have HM := Aside0.mk hm
   have hm3 : Aside0 (V1 315 = V 115 ∧ X1 315 = X 115) := ⟨hm.c3⟩
   have hm6 : Aside0 (V1 318 = V 118 ∧ X1 318 = X 118) := ⟨hm.c6⟩
   clear hm
   go_upto_region 11 with (fail)
   go_quiet (fail)
   have HRW := Aside0.mk (And.intro hv (And.intro hu (And.intro hx hy)))
   have hML : Aside0 ((X1 112).length ≤ 1099511627776 ∧ (X1 113).length ≤ 1099511627776 ∧ (X1 114).length ≤ 1099511627776 ∧ (X1 115).length ≤ 1099511627776 ∧ (X1 116).length ≤ 1099511627776 ∧ (X1 117).length ≤ 1099511627776 ∧ (X1 118).length ≤ 1099511627776 ∧ (X1 119).length ≤ 1099511627776) := ⟨HM.out.lens HA.out.rb⟩
   have HVL := Aside0.mk hvl
   have HLL := Aside0.mk hL
   clear hv hu hx hy hwe hvl hL
   by_cases hd : t0 < b
   ·go_upto_region 12 with (fail)
    refine img.wp_world (p := fun wx => Aside0 (Mq m w bk 12 R s V X k s1 V1 X1 wx)) ⟨HM.out.still (grown_drewN wr nq)⟩ ?_
    clear HM r15 r16 r18 r19 k2
    rintro w2 HM
    obtain ⟨A2, c2, e2⟩ := HM.out.sh.slice (j := 114) (by decide)
    have q15 := (HM.out.sh.cell (j := 114) (by decide)).trans (congrArg some e2)
    have l15 : ((X1 114).length + 1) * 24 ≤ 140737488355328 := by have := hML.out; omega
    go_wp2_with (at_builtin; refine push_row HM.out.sh 114 (by decide) (by decide) (by decide) rfl (.tmp 68) (.tmp 70) 37 (.slice none 0 0) 24 rfl Tryz.underlying37 i41 rfl (by decide) e2.symm rfl rfl l15 ?_; intro A1 c1 w3 V2 X2 HP zc zf)
    refine img.wp_world (p := fun wx => Aside0 (V2 = upd V1 114 (.slice A1 ((X1 114).length + 1) c1) ∧ X2 = upd X1 114 (X1 114 ++ [.slice A nl c]) ∧ Sh m wx bk s1 V2 X2 ∧ Fr m w2 wx)) HP ?_
    clear HP zc zf q15 l15 e2
    rintro w4 HP
    go_cut [] from 74 to 86 (fun wx => ∃ v3 V3 X3, Aside0 (V3 = upd V2 115 v3 ∧ X3 = upd X2 115 (X2 115 ++ [.slice B nu cu]) ∧ Sh m wx bk s1 V3 X3 ∧ Fr m w2 wx))
    case first =>
     obtain ⟨A3, c3, e3⟩ := HP.out.2.2.1.slice (j := 115) (by decide)
     have q16 := (HP.out.2.2.1.cell (j := 115) (by decide)).trans (congrArg some e3)
     have q16a := ((HP.out.2.2.1.still (grown_alloc w4 (.cells #[.slice B nu cu] 41))).cell (j := 115) (by decide)).trans (congrArg some e3)
     have r16 : w4.cell? ⟨b16, k, none⟩ = some (.slice B nu cu) := HP.out.2.2.1.vcell (j := 315) (by decide) (by rw [HP.out.1, upd_ne _ _ (by decide)]; exact hm3.out.1.trans HH.out.2.1) (by rw [HP.out.2.1, upd_ne _ _ (by decide)]; exact (congrArg (·[k]?) hm3.out.2).trans HRW.out.2.1)
     have l16 : ((X2 115).length + 1) * 24 ≤ 140737488355328 := by rw [HP.out.2.1, upd_ne _ _ (by decide)]; have := hML.out; omega
     go_region_law (refine push_step (HP.out.2.2.1.still (grown_drew w4)) 115 (by decide) (by decide) (by decide) (by rfl) (.tmp 78) (.tmp 83) 37 (.slice none 0 0) 24 (by rfl) Tryz.underlying37 i41 rfl (by decide) e3.symm (by rfl) rfl l16 ?_; intro A4 c4 w5 V3 X3 HQ zc zf)
     all_goals
      go_wp2_with (fail)
      go_meet
      exact ⟨_, V3, X3, ⟨HQ.out.1, HQ.out.2.1, HQ.out.2.2.1, HP.out.2.2.2.then_ ((HP.out.2.2.1.frS (grown_drew w4)).then_ HQ.out.2.2.2)⟩⟩
    case rest =>
     obtain ⟨v3, V3, X3, HQ⟩ := hcut
     obtain ⟨A5, c5, e5⟩ := HQ.out.2.2.1.slice (j := 117) (by decide)
     have q18 := (HQ.out.2.2.1.cell (j := 117) (by decide)).trans (congrArg some e5)
     have l18 : ((X3 117).length + 1) * 8 ≤ 140737488355328 := by rw [HQ.out.2.1, upd_ne _ _ (by decide), HP.out.2.1, upd_ne _ _ (by decide)]; have := hML.out; omega
     go_wp2_with (at_builtin; refine push_row HQ.out.2.2.1 117 (by decide) (by decide) (by decide) rfl (.tmp 91) (.tmp 93) 25 (.int .i64 0) 8 rfl Tryz.underlying25 i3 rfl (by decide) e5.symm rfl rfl l18 ?_; intro A6 c6 w6 V4 X4 HS zc zf)
     refine img.wp_world (p := fun wx => Aside0 (V4 = upd V3 117 (.slice A6 ((X3 117).length + 1) c6) ∧ X4 = upd X3 117 (X3 117 ++ [.int .i64 a]) ∧ Sh m wx bk s1 V4 X4 ∧ Fr m w2 wx)) ⟨HS.out.1, HS.out.2.1, HS.out.2.2.1, HQ.out.2.2.2.then_ HS.out.2.2.2⟩ ?_
     clear HS zc zf q18 l18 e5
     rintro w7 HS
     go_cut [] from 97 to 109 (fun wx => ∃ v5 V5 X5, Aside0 (V5 = upd V4 118 v5 ∧ X5 = upd X4 118 (X4 118 ++ [.int .i64 b]) ∧ Sh m wx bk s1 V5 X5 ∧ Fr m w2 wx))
     case first =>
      obtain ⟨A3, c3, e3⟩ := HS.out.2.2.1.slice (j := 118) (by decide)
      have q19 := (HS.out.2.2.1.cell (j := 118) (by decide)).trans (congrArg some e3)
      have q19a := ((HS.out.2.2.1.still (grown_alloc w7 (.cells #[.int .i64 b] 3))).cell (j := 118) (by decide)).trans (congrArg some e3)
      have r19 : w7.cell? ⟨b19, k, none⟩ = some (.int .i64 b) := HS.out.2.2.1.vcell (j := 318) (by decide) (by rw [HS.out.1, upd_ne _ _ (by decide), HQ.out.1, upd_ne _ _ (by decide), HP.out.1, upd_ne _ _ (by decide)]; exact hm6.out.1.trans HH.out.2.2.2.1) (by rw [HS.out.2.1, upd_ne _ _ (by decide), HQ.out.2.1, upd_ne _ _ (by decide), HP.out.2.1, upd_ne _ _ (by decide)]; exact (congrArg (·[k]?) hm6.out.2).trans HRW.out.2.2.2)
      have l19 : ((X4 118).length + 1) * 8 ≤ 140737488355328 := by rw [HS.out.2.1, upd_ne _ _ (by decide), HQ.out.2.1, upd_ne _ _ (by decide), HP.out.2.1, upd_ne _ _ (by decide)]; have := hML.out; omega
      go_region_law (refine push_step (HS.out.2.2.1.still (grown_drew w7)) 118 (by decide) (by decide) (by decide) (by rfl) (.tmp 101) (.tmp 106) 25 (.int .i64 0) 8 (by rfl) Tryz.underlying25 i3 rfl (by decide) e3.symm (by rfl) rfl l19 ?_; intro A4 c4 w8 V5 X5 HT zc zf)
      all_goals
       go_wp2_with (fail)
       go_meet
       exact ⟨_, V5, X5, ⟨HT.out.1, HT.out.2.1, HT.out.2.2.1, HS.out.2.2.2.then_ ((HS.out.2.2.1.frS (grown_drew w7)).then_ HT.out.2.2.2)⟩⟩
     case rest =>
      obtain ⟨v5, V5, X5, HT⟩ := hcut
      have HZ : Aside0 (Mq m w bk 12 R s V X (k + 1) s1 V5 X5 wc) := ⟨by
       refine HM.out.wait (by decide) HRW.out.1 HRW.out.2.1 HT.out.2.2.1 (chain4 HP.out.2.1 HQ.out.2.1 HS.out.2.1 HT.out.2.1 (by decide) (by decide) (by decide)) (fun j h1 h2 h3 h4 => ?_) HT.out.2.2.2
       rw [HT.out.1, upd_ne _ _ h4, HS.out.1, upd_ne _ _ h3, HQ.out.1, upd_ne _ _ h2, HP.out.1, upd_ne _ _ h1]⟩
      clear HM HP HQ HS HT
      go_wp2_with (fail)
      go_roundw
      case rel => exact ⟨k + 1, by omega, by go_num, ⟨s1, V5, X5, HZ.out⟩⟩
      case measure => simp [intOf]; omega
   ·have k1 := (HM.out.sh.cell (j := 1) (by decide)).trans (congrArg some ((HM.out.rest 1 (by decide) (by decide)).1.trans HA.out.v1))
    have k0 := (HM.out.sh.cell (j := 0) (by decide)).trans (congrArg some ((HM.out.rest 0 (by decide) (by decide)).1.trans HA.out.v0))
    have HK01 := Aside0.mk (And.intro k0 k1)
    clear k0 k1
    go_upto_region 16 with (fail)
    refine img.wp_world (p := fun wx => Aside0 (Mq m w bk 12 R s V X k s1 V1 X1 wx)) ⟨HM.out.still (grown_drewN wr nq)⟩ ?_
    clear HM r15 r16 r18 r19 k2 HK01
    rintro w2 HM
    have k1 := (HM.out.sh.cell (j := 1) (by decide)).trans (congrArg some ((HM.out.rest 1 (by decide) (by decide)).1.trans HA.out.v1))
    have k0 := (HM.out.sh.cell (j := 0) (by decide)).trans (congrArg some ((HM.out.rest 0 (by decide) (by decide)).1.trans HA.out.v0))
    have f1 := HM.out.sh.frozen 1
    have r16 := HM.out.sh.vcell (j := 315) (by decide) (hm3.out.1.trans HH.out.2.1) ((congrArg (·[k]?) hm3.out.2).trans HRW.out.2.1)
    have HS := Aside0.mk (sg_objects _ _ w2 (HPR.out.q12 HM.out.sh HM.out.ty))
    go_upto_region 17 with (first | (go_at_call 89; refine HS.out.mono ?_; rintro en w3 ⟨rfl, hg3⟩; have HM3 := Aside0.mk (HM.out.still hg3); have k13 := (HM3.out.sh.cell (j := 1) (by decide)).trans (congrArg some ((HM3.out.rest 1 (by decide) (by decide)).1.trans HA.out.v1)); have f13 := HM3.out.sh.frozen 1; have ee := img.setCell_id k13))
    clear HS k0 k1 f1 r16 ee k13 f13 hg3 HM
    have HM := HM3
    clear HM3
    have HW := Aside0.mk (Wq.start HM.out.sh HM.out.ty HVL.out)
    have hnl : nl ≤ 1099511627776 := HLL.out.2.2.2.2.2.1
    go_wp2_with (fail)
    go_loopw [9] (fun i wx => ∃ j : Nat, j ≤ nl ∧ i = .int .i64 j ∧ Aside0 (∃ s2 L2, Wq m bk 12 1 s1 V1 X1 w3 (.slice A nl c) A nl c s2 L2 wx)) (fun i _ => nl - (intOf i).toNat)
    case atStart => exact ⟨0, Nat.zero_le _, rfl, ⟨s1, L, HW.out⟩⟩
    case round =>
     clear HW
     obtain ⟨j, hj, rfl, HW⟩ := hrel
     obtain ⟨s2, L2, hw⟩ := HW.out
     clear HW
     by_cases hjl : j < nl
     ·obtain ⟨ka, rfl⟩ := hw.blk (by omega)
      have hz := hjl
      have fz := hjl
      obtain ⟨z0, hz0, fz0⟩ := hw.at rfl (i := j * 5) (by simp only [esz]; simp; omega)
      obtain ⟨z1, hz1, fz1⟩ := hw.at rfl (i := j * 5 + 1) (by simp only [esz]; simp; omega)
      obtain ⟨z2, hz2, fz2⟩ := hw.at rfl (i := j * 5 + 2) (by simp only [esz]; simp; omega)
      obtain ⟨z3, hz3, fz3⟩ := hw.at rfl (i := j * 5 + 3) (by simp only [esz]; simp; omega)
      obtain ⟨z4, hz4, fz4⟩ := hw.at rfl (i := j * 5 + 4) (by simp only [esz]; simp; omega)
      have HW2 := Aside0.mk (fun (y : Int) => hw.set5 rfl hjl 0 y 0)
      clear hw hz fz
      go_wp2_with (fail)
      go_roundw
      case rel => exact ⟨j + 1, by omega, by go_num, ⟨HW2.out _⟩⟩
      case measure => simp [intOf]; omega
     ·obtain rfl : nl = j := by omega
      obtain ⟨w4, rfl⟩ : ∃ w4, w4 = wr := ⟨_, rfl⟩
      have HL := Aside0.mk (hw.sh.vl hw.ty hw.vl).2
      have HW := Aside0.mk hw
      clear hw
      obtain ⟨A13, c13, e13⟩ := HW.out.sh.slice (j := 112) (by decide)
      have q13 := (HW.out.sh.cell (j := 112) (by decide)).trans (congrArg some e13)
      have l13 : ((X1 112).length + 1) * 24 ≤ 140737488355328 := by have := hML.out; omega
      go_wp2_with (at_builtin; refine push_row HW.out.sh 112 (by decide) (by decide) (by decide) rfl (.tmp 151) (.tmp 153) 37 (.slice none 0 0) 24 rfl Tryz.underlying37 i41 rfl (by decide) e13.symm rfl rfl l13 ?_; intro A1 c1 w5 V2 X2 HP zc zf)
      refine img.wp_world (p := fun wx => Aside0 (V2 = upd V1 112 (.slice A1 ((X1 112).length + 1) c1) ∧ X2 = upd X1 112 (X1 112 ++ [.slice A nl c]) ∧ Sh m wx bk s2 V2 X2 ∧ Fr m w3 wx)) ⟨HP.out.1, HP.out.2.1, HP.out.2.2.1, HW.out.fr.then_ HP.out.2.2.2⟩ ?_
      clear HP zc zf q13 l13 e13
      rintro w6 HP
      go_cut [] from 157 to 168 (fun wx => ∃ kc cc v3 V3 X3, Aside0 (s2 kc = none ∧ V3 = upd V2 113 v3 ∧ X3 = upd X2 113 (X2 113 ++ [.slice (some ⟨kc, 0, none⟩) nl cc]) ∧ Sh m wx bk (upd s2 kc (some ⟨12, 3, nl, cc, L2⟩)) V3 X3 ∧ Fr m w3 wx))
      case first =>
       obtain ⟨A14, c14, e14⟩ := HP.out.2.2.1.slice (j := 113) (by decide)
       have l14 : ((X2 113).length + 1) * 24 ≤ 140737488355328 := by rw [HP.out.2.1, upd_ne _ _ (by decide)]; have := hML.out; omega
       have q14 := (HP.out.2.2.1.cell (j := 113) (by decide)).trans (congrArg some e14)
       have q14a := ((HP.out.2.2.1.still (grown_alloc w6 (.cells #[] 66))).cell (j := 113) (by decide)).trans (congrArg some e14)
       have HC := Aside0.mk (((HP.out.2.2.1.still (grown_drew w6)).still (grown_alloc w6.drew (.cells #[] 66))).vl HW.out.ty HW.out.vl).2.2.2.2.1
       go_region_law (first
        | (refine copy_step (by rfl) (.tmp 162) (.tmp 163) 41 66 (.agg #[.int .u64 0, .int .i64 0, .int .i64 0, .slice none 0 0, .slice none 0 0]) 5 72 (by rfl) Tryz.underlying41 i66 rfl (by decide) w6.heap.size (by rfl) A nl c (by rfl) (World.ownsRow_made w6.drew #[] 0 (Nat.zero_le _) (by decide) rfl) L2 HL.out.1 HL.out.2.1 HL.out.2.2.1 HC.out HL.out.2.2.2.2.1 HL.out.2.2.2.2.2.1 (by have := HL.out.2.2.2.2.2.1; omega) ?_; intro kc cc w7 HC3; have HS3 := Aside0.mk (copied (q := 12) HP.out.2.2.1 rfl HC3.out); have q14c := (HS3.out.2.1.cell (j := 113) (by decide)).trans (congrArg some e14); have q14e := ((HS3.out.2.1.still (grown_alloc w7 (.cells #[.slice (some ⟨kc, 0, none⟩) nl cc] 41))).cell (j := 113) (by decide)).trans (congrArg some e14))
        | (refine push_step HS3.out.2.1 113 (by decide) (by decide) (by decide) (by rfl) (.tmp 161) (.tmp 165) 37 (.slice none 0 0) 24 (by rfl) Tryz.underlying37 i41 rfl (by decide) e14.symm (by rfl) rfl l14 ?_; intro A2 c2 w8 V3 X3 HQ zc zf))
       all_goals
        go_wp2_with (fail)
        go_meet
        exact ⟨kc, cc, _, V3, X3, ⟨HS3.out.1, HQ.out.1, HQ.out.2.1, HQ.out.2.2.1, (HP.out.2.2.2.then_ HS3.out.2.2).then_ HQ.out.2.2.2⟩⟩
      case rest =>
       obtain ⟨kc, cc, v3, V3, X3, HQ⟩ := hcut
       obtain ⟨A17, c17, e17⟩ := HQ.out.2.2.2.1.slice (j := 116) (by decide)
       have q17 := (HQ.out.2.2.2.1.cell (j := 116) (by decide)).trans (congrArg some e17)
       have l17 : ((X3 116).length + 1) * 24 ≤ 140737488355328 := by rw [HQ.out.2.2.1, upd_ne _ _ (by decide), HP.out.2.1, upd_ne _ _ (by decide)]; have := hML.out; omega
       go_upto_region 24 with (at_builtin; refine push_row HQ.out.2.2.2.1 116 (by decide) (by decide) (by decide) rfl (.tmp 173) (.tmp 175) 37 (.slice none 0 0) 24 rfl Tryz.underlying37 i41 rfl (by decide) e17.symm rfl rfl l17 ?_; intro A3 c3 w9 V4 X4 HS zc zf)
       refine img.wp_world (p := fun wx => Aside0 (V4 = upd V3 116 (.slice A3 ((X3 116).length + 1) c3) ∧ X4 = upd X3 116 (X3 116 ++ [.slice A nl c]) ∧ Sh m wx bk (upd s2 kc (some ⟨12, 3, nl, cc, L2⟩)) V4 X4 ∧ Fr m w3 wx)) ⟨HS.out.1, HS.out.2.1, HS.out.2.2.1, HQ.out.2.2.2.2.then_ HS.out.2.2.2⟩ ?_
       clear HS zc zf q17 l17 e17
       rintro w10 HS
       obtain ⟨A20, c20, e20⟩ := HS.out.2.2.1.slice (j := 119) (by decide)
       have q20 := (HS.out.2.2.1.cell (j := 119) (by decide)).trans (congrArg some e20)
       have l20 : ((X4 119).length + 1) * 8 ≤ 140737488355328 := by rw [HS.out.2.1, upd_ne _ _ (by decide), HQ.out.2.2.1, upd_ne _ _ (by decide), HP.out.2.1, upd_ne _ _ (by decide)]; have := hML.out; omega
       go_wp2_with (at_builtin; refine push_row HS.out.2.2.1 119 (by decide) (by decide) (by decide) rfl (.tmp 183) (.tmp 185) 25 (.int .i64 0) 8 rfl Tryz.underlying25 i3 rfl (by decide) e20.symm rfl rfl l20 ?_; intro A4 c4 w11 V5 X5 HT zc zf)
       have HZ := Aside0.mk (HM.out.mark (by decide) HRW.out.1 HRW.out.2.1 HW.out.vl HW.out.ty HW.out.old HQ.out.1 HT.out.2.2.1 (chain4 HP.out.2.1 HQ.out.2.2.1 HS.out.2.1 HT.out.2.1 (by decide) (by decide) (by decide)) (fun j h1 h2 h3 h4 => by
        rw [HT.out.1, upd_ne _ _ h4, HS.out.1, upd_ne _ _ h3, HQ.out.2.1, upd_ne _ _ h2, HP.out.1, upd_ne _ _ h1]) (HS.out.2.2.2.then_ HT.out.2.2.2))
       clear HM HP HQ HS HT HW HL zc zf q20 l20 e20
       go_roundw
       case rel => exact ⟨k + 1, by omega, by go_num, ⟨by obtain ⟨s3, h3⟩ := HZ.out; exact ⟨s3, V5, X5, h3⟩⟩⟩
       case measure => simp [intOf]; omega
  ·obtain rfl : n = k := by omega
   have HF := Aside0.mk (hm.fin HA.out (by simp [live]) (Nat.le_of_eq HH.out.2.2.2.2.1.symm))
   have HR := Aside0.mk hm.fr
   clear hm
   go_wp2_with (fail)
   go_end0
   exact ⟨rfl, HR.out, s1, V1, X1, HF.out⟩
end
end Go.Proofs.YtihjjkoddphmiaaGreatDoor.bk
