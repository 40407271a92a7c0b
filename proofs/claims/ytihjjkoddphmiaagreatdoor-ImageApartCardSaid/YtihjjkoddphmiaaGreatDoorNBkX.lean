/-
  The walks of (*Book).markInts and its kin.
-/
import Derived.Test.YtihjjkoddphmiaaGreatDoorNBkK
import Derived.Test.YtihjjkoddphmiaaGreatDoorNBkR
namespace Go.Proofs.YtihjjkoddphmiaaGreatDoor.bk
open Go.RowKit Go.Proofs.YtihjjkoddphmiaaGreatDoorW.PrintWords Go.Proofs.YtihjjkoddphmiaaGreatDoorW.PrintLast Go.Proofs.YtihjjkoddphmiaaGreatDoorW.PrintMore Go.Proofs.YtihjjkoddphmiaaGreatDoor.PImageApart
set_option linter.unusedVariables false
set_option linter.unusedSimpArgs false

/-- same..: the world may grow. -/
theorem sg_bytes (v u : Value) (w : World) (h : Q1 .u8 w v u) : Calls Tryz.prog 77 #[v, u] w fun e w' => e = .returned (.bool true) ∧ w.grownBy w' none := (same_bytes v u w h).mono (fun e w' h => ⟨h.1, by rw [h.2]; exact grown_refl _ _⟩)
theorem sg_ints (v u : Value) (w : World) (h : Q1 .i64 w v u) : Calls Tryz.prog 78 #[v, u] w fun e w' => e = .returned (.bool true) ∧ w.grownBy w' none := (same_ints v u w h).mono (fun e w' h => ⟨h.1, by rw [h.2]; exact grown_refl _ _⟩)
theorem sg_words (v u : Value) (w : World) (h : Q1 .u64 w v u) : Calls Tryz.prog 80 #[v, u] w fun e w' => e = .returned (.bool true) ∧ w.grownBy w' none := (same_words v u w h).mono (fun e w' h => ⟨h.1, by rw [h.2]; exact grown_refl _ _⟩)
theorem sg_intLists (v u : Value) (w : World) (h : Q9 (Q1 .i64) w v u) : Calls Tryz.prog 86 #[v, u] w fun e w' => e = .returned (.bool true) ∧ w.grownBy w' none := (same_intLists v u w h).mono (fun e w' h => ⟨h.1, by rw [h.2]; exact grown_refl _ _⟩)
theorem sg_frames (v u : Value) (w : World) (h : Q9 (Q9 (Q1 .i64)) w v u) : Calls Tryz.prog 88 #[v, u] w fun e w' => e = .returned (.bool true) ∧ w.grownBy w' none := (same_frames v u w h).mono (fun e w' h => ⟨h.1, by rw [h.2]; exact grown_refl _ _⟩)
theorem sg_objects (v u : Value) (w : World) (h : Q12 w v u) : Calls Tryz.prog 89 #[v, u] w fun e w' => e = .returned (.bool true) ∧ w.grownBy w' none := same_objects v u w h
section
variable {m : Nat → Prop} {w : World} {bk R : Nat} {s : Nat → Option Bl} {V : Nat → Value} {X : Nat → List Value} {d : Int}
def Done (m : Nat → Prop) (w : World) (bk R : Nat) (d : Int) (e : Ending) (w' : World) : Prop := e = .returned (.tuple #[]) ∧ Fr m w w' ∧ ∃ s' V' X', All m w' bk s' V' X' R d
theorem grown_drewN (w : World) (n : Nat) : w.grownBy (w.drewN n) none := ⟨rfl, rfl, rfl, Nat.le_refl _, fun _ _ _ => rfl⟩
theorem Mq.lens {q i : Nat} {s' : Nat → Option Bl} {V' : Nat → Value} {X' : Nat → List Value} {wr : World} (h : Mq m w bk q R s V X i s' V' X' wr) (hR : R ≤ 1099511627776) : (X' (4 + 9 * q)).length ≤ 1099511627776 ∧ (X' (5 + 9 * q)).length ≤ 1099511627776 ∧ (X' (6 + 9 * q)).length ≤ 1099511627776 ∧ (X' (7 + 9 * q)).length ≤ 1099511627776 ∧ (X' (8 + 9 * q)).length ≤ 1099511627776 ∧ (X' (9 + 9 * q)).length ≤ 1099511627776 ∧ (X' (10 + 9 * q)).length ≤ 1099511627776 ∧ (X' (11 + 9 * q)).length ≤ 1099511627776 := by
 have h1 := h.ki.rm; have h2 := h.ki.ot; have h3 := h.l7; have h4 := h.m1; have h5 := h.m2; have h6 := h.m3
 rw [List.length_append] at h1
 omega
set_option maxHeartbeats 8000000 in
set_option maxRecDepth 100000 in
theorem mark_bytes (h : All m w bk s V X R d) : Calls Tryz.prog 95 #[.pointer (some ⟨bk, 0, none⟩)] w (Done m w bk R d) := by
 have hK := h.ks 0 (by simp [live])
 obtain ⟨n, hn⟩ : ∃ n, n = (X 6).length := ⟨_, rfl⟩
 have hl16 : (X 7).length = n := hK.ki.wn.trans hn.symm
 have hl18 : (X 9).length = n := hK.m1.trans hn.symm
 have hl19 : (X 10).length = n := hK.m2.trans hn.symm
 have hnn : n ≤ 1099511627776 := by rw [hn]; exact (h.lens (q := 0) (by simp [live])).2.2.1
 obtain ⟨A15, c15, h15⟩ := h.sh.slice (j := 6) (by decide)
 obtain ⟨A16, c16, h16⟩ := h.sh.slice (j := 7) (by decide)
 obtain ⟨A18, c18, h18⟩ := h.sh.slice (j := 9) (by decide)
 obtain ⟨A19, c19, h19⟩ := h.sh.slice (j := 10) (by decide)
 rw [← hn] at h15
 rw [hl16] at h16
 rw [hl18] at h18
 rw [hl19] at h19
 have k15 := (h.sh.cell (j := 6) (by decide)).trans (congrArg some h15)
 have k16 := (h.sh.cell (j := 7) (by decide)).trans (congrArg some h16)
 have k18 := (h.sh.cell (j := 9) (by decide)).trans (congrArg some h18)
 have k19 := (h.sh.cell (j := 10) (by decide)).trans (congrArg some h19)
 have f15 := h.sh.frozen 6
 have f16 := h.sh.frozen 7
 have f18 := h.sh.frozen 9
 have f19 := h.sh.frozen 10
 have HA := Aside0.mk h
 by_cases hn0 : n = 0
 ·subst hn0
  clear h hK hn hl16 hl18 hl19 h15 h16 h18 h19
  go_enter Tryz.func95, Tryz.ntmps95
  go_wp2
  refine bodyPost_ret (results_none rfl _ _ _) rfl ?_
  exact ⟨rfl, Fr.refl _ _, s, V, X, HA.out⟩
 have hi0 : ((n : Int) == 0) = false := by simp; omega
 obtain ⟨t0, ht0⟩ := h.v2
 obtain ⟨b15, rfl⟩ : ∃ b, A15 = some ⟨b, 0, none⟩ := by
  obtain ⟨b, c, e, -⟩ := h.sh.rcell (j := 6) (by decide) (List.getElem?_eq_getElem (show 0 < (X 6).length by omega))
  rw [h15] at e; injection e with e; exact ⟨b, e⟩
 obtain ⟨b16, rfl⟩ : ∃ b, A16 = some ⟨b, 0, none⟩ := by
  obtain ⟨b, c, e, -⟩ := h.sh.rcell (j := 7) (by decide) (List.getElem?_eq_getElem (show 0 < (X 7).length by omega))
  rw [h16] at e; injection e with e; exact ⟨b, e⟩
 obtain ⟨b18, rfl⟩ : ∃ b, A18 = some ⟨b, 0, none⟩ := by
  obtain ⟨b, c, e, -⟩ := h.sh.rcell (j := 9) (by decide) (List.getElem?_eq_getElem (show 0 < (X 9).length by omega))
  rw [h18] at e; injection e with e; exact ⟨b, e⟩
 obtain ⟨b19, rfl⟩ : ∃ b, A19 = some ⟨b, 0, none⟩ := by
  obtain ⟨b, c, e, -⟩ := h.sh.rcell (j := 10) (by decide) (List.getElem?_eq_getElem (show 0 < (X 10).length by omega))
  rw [h19] at e; injection e with e; exact ⟨b, e⟩
 have HM0 := Aside0.mk (Mq.start h (q := 0) (by simp [live]))
 have HH := Aside0.mk (And.intro h15 (And.intro h16 (And.intro h18 (And.intro h19 (And.intro hn (And.intro hl16 (And.intro hl18 hl19)))))))
 clear h hK h15 h16 h18 h19 hl16 hl18 hl19 hn
 go_enter Tryz.func95, Tryz.ntmps95
 go_upto_region 6 with (fail)
 refine img.wp_world (p := fun wx => Aside0 (∃ V' X', Mq m w bk 0 R s V X 0 s V' X' wx)) HM0 ?_
 clear HM0 k15 k16 k18 k19 f15 f16 f18 f19
 rintro w1 HM0
 go_wp2_with (fail)
 go_loopw [6] (fun i wr => ∃ k : Nat, k ≤ n ∧ i = .int .i64 k ∧ Aside0 (∃ s1 V1 X1, Mq m w bk 0 R s V X k s1 V1 X1 wr)) (fun i _ => n - (intOf i).toNat)
 case atStart => exact ⟨0, Nat.zero_le _, rfl, ⟨s, HM0.out⟩⟩
 case round =>
  clear HM0
  obtain ⟨k, hk, rfl, HM⟩ := hrel
  obtain ⟨s1, V1, X1, hm⟩ := HM.out
  clear HM
  by_cases hlt : k < n
  ·obtain ⟨v, hv⟩ : ∃ v, (X 6)[k]? = some v := ⟨_, List.getElem?_eq_getElem (by have := HH.out.2.2.2.2.1; omega)⟩
   obtain ⟨u, hu⟩ : ∃ u, (X 7)[k]? = some u := ⟨_, List.getElem?_eq_getElem (by have := HH.out.2.2.2.2.2.1; omega)⟩
   obtain ⟨x, hx⟩ : ∃ x, (X 9)[k]? = some x := ⟨_, List.getElem?_eq_getElem (by have := HH.out.2.2.2.2.2.2.1; omega)⟩
   obtain ⟨y, hy⟩ : ∃ y, (X 10)[k]? = some y := ⟨_, List.getElem?_eq_getElem (by have := HH.out.2.2.2.2.2.2.2; omega)⟩
   obtain ⟨a, rfl⟩ := (HA.out.ks 0 (by simp [live])).n1 x (List.mem_of_getElem? hx)
   obtain ⟨b, rfl⟩ := (HA.out.ks 0 (by simp [live])).n2 y (List.mem_of_getElem? hy)
   have hwe := hm.ki.we v (List.mem_append_right _ (by rw [drop_cons hv]; exact List.mem_cons_self ..))
   have hwp : Pr s1 0 (· = 1) (2 ≤ ·) v u := by
    have h7 := hm.l7
    refine hm.ki.wp (X1 6).length v u ?_ ?_
    ·rw [List.getElem?_append_right (Nat.le_refl _), Nat.sub_self, List.getElem?_drop]; exact hv
    ·rw [List.getElem?_append_right (by show (X1 7).length ≤ _; exact Nat.le_of_eq h7), show (X1 6).length - (X1 (7 + 9 * 0)).length = 0 by rw [h7]; exact Nat.sub_self _, List.getElem?_drop]; exact hu
   have HPR := Aside0.mk hwp
   obtain ⟨A, nl, c, L, hvl⟩ := hwe.vl
   obtain ⟨-, B, nu, -, cu, -, rfl, -⟩ := hwp
   obtain ⟨rfl, hL⟩ := hm.sh.vl hm.ty hvl
   have r15 := hm.sh.vcell (j := 206) (by decide) (hm.c2.1.trans HH.out.1) ((congrArg (·[k]?) hm.c2.2).trans hv)
   have r16 := hm.sh.vcell (j := 207) (by decide) (hm.c3.1.trans HH.out.2.1) ((congrArg (·[k]?) hm.c3.2).trans hu)
   have r18 := hm.sh.vcell (j := 209) (by decide) (hm.c5.1.trans HH.out.2.2.1) ((congrArg (·[k]?) hm.c5.2).trans hx)
   have r19 := hm.sh.vcell (j := 210) (by decide) (hm.c6.1.trans HH.out.2.2.2.1) ((congrArg (·[k]?) hm.c6.2).trans hy)
   have k2 := (hm.sh.cell (j := 2) (by decide)).trans (congrArg some ((hm.rest 2 (by decide) (by decide)).1.trans ht0))
   have HM := Aside0.mk hm
   have hm3 : Aside0 (V1 207 = V 7 ∧ X1 207 = X 7) := ⟨hm.c3⟩
   have hm6 : Aside0 (V1 210 = V 10 ∧ X1 210 = X 10) := ⟨hm.c6⟩
   clear hm
   go_upto_region 11 with (fail)
   go_quiet (fail)
   have HRW := Aside0.mk (And.intro hv (And.intro hu (And.intro hx hy)))
   have hML : Aside0 ((X1 4).length ≤ 1099511627776 ∧ (X1 5).length ≤ 1099511627776 ∧ (X1 6).length ≤ 1099511627776 ∧ (X1 7).length ≤ 1099511627776 ∧ (X1 8).length ≤ 1099511627776 ∧ (X1 9).length ≤ 1099511627776 ∧ (X1 10).length ≤ 1099511627776 ∧ (X1 11).length ≤ 1099511627776) := ⟨HM.out.lens HA.out.rb⟩
   have HVL := Aside0.mk hvl
   have HLL := Aside0.mk hL
   clear hv hu hx hy hwe hvl hL
   by_cases hd : t0 < b
   ·go_upto_region 12 with (fail)
    refine img.wp_world (p := fun wx => Aside0 (Mq m w bk 0 R s V X k s1 V1 X1 wx)) ⟨HM.out.still (grown_drewN wr nq)⟩ ?_
    clear HM r15 r16 r18 r19 k2
    rintro w2 HM
    obtain ⟨A2, c2, e2⟩ := HM.out.sh.slice (j := 6) (by decide)
    have q15 := (HM.out.sh.cell (j := 6) (by decide)).trans (congrArg some e2)
    have l15 : ((X1 6).length + 1) * 24 ≤ 140737488355328 := by have := hML.out; omega
    go_wp2_with (at_builtin; refine push_row HM.out.sh 6 (by decide) (by decide) (by decide) rfl (.tmp 68) (.tmp 70) 24 (.slice none 0 0) 24 rfl Tryz.underlying24 i40 rfl (by decide) e2.symm rfl rfl l15 ?_; intro A1 c1 w3 V2 X2 HP zc zf)
    refine img.wp_world (p := fun wx => Aside0 (V2 = upd V1 6 (.slice A1 ((X1 6).length + 1) c1) ∧ X2 = upd X1 6 (X1 6 ++ [.slice A nl c]) ∧ Sh m wx bk s1 V2 X2 ∧ Fr m w2 wx)) HP ?_
    clear HP zc zf q15 l15 e2
    rintro w4 HP
    go_cut [] from 74 to 86 (fun wx => ∃ v3 V3 X3, Aside0 (V3 = upd V2 7 v3 ∧ X3 = upd X2 7 (X2 7 ++ [.slice B nu cu]) ∧ Sh m wx bk s1 V3 X3 ∧ Fr m w2 wx))
    case first =>
     obtain ⟨A3, c3, e3⟩ := HP.out.2.2.1.slice (j := 7) (by decide)
     have q16 := (HP.out.2.2.1.cell (j := 7) (by decide)).trans (congrArg some e3)
     have q16a := ((HP.out.2.2.1.still (grown_alloc w4 (.cells #[.slice B nu cu] 40))).cell (j := 7) (by decide)).trans (congrArg some e3)
     have r16 : w4.cell? ⟨b16, k, none⟩ = some (.slice B nu cu) := HP.out.2.2.1.vcell (j := 207) (by decide) (by rw [HP.out.1, upd_ne _ _ (by decide)]; exact hm3.out.1.trans HH.out.2.1) (by rw [HP.out.2.1, upd_ne _ _ (by decide)]; exact (congrArg (·[k]?) hm3.out.2).trans HRW.out.2.1)
     have l16 : ((X2 7).length + 1) * 24 ≤ 140737488355328 := by rw [HP.out.2.1, upd_ne _ _ (by decide)]; have := hML.out; omega
     go_region_law (refine push_step (HP.out.2.2.1.still (grown_drew w4)) 7 (by decide) (by decide) (by decide) (by rfl) (.tmp 78) (.tmp 83) 24 (.slice none 0 0) 24 (by rfl) Tryz.underlying24 i40 rfl (by decide) e3.symm (by rfl) rfl l16 ?_; intro A4 c4 w5 V3 X3 HQ zc zf)
     all_goals
      go_wp2_with (fail)
      go_meet
      exact ⟨_, V3, X3, ⟨HQ.out.1, HQ.out.2.1, HQ.out.2.2.1, HP.out.2.2.2.then_ ((HP.out.2.2.1.frS (grown_drew w4)).then_ HQ.out.2.2.2)⟩⟩
    case rest =>
     obtain ⟨v3, V3, X3, HQ⟩ := hcut
     obtain ⟨A5, c5, e5⟩ := HQ.out.2.2.1.slice (j := 9) (by decide)
     have q18 := (HQ.out.2.2.1.cell (j := 9) (by decide)).trans (congrArg some e5)
     have l18 : ((X3 9).length + 1) * 8 ≤ 140737488355328 := by rw [HQ.out.2.1, upd_ne _ _ (by decide), HP.out.2.1, upd_ne _ _ (by decide)]; have := hML.out; omega
     go_wp2_with (at_builtin; refine push_row HQ.out.2.2.1 9 (by decide) (by decide) (by decide) rfl (.tmp 91) (.tmp 93) 25 (.int .i64 0) 8 rfl Tryz.underlying25 i3 rfl (by decide) e5.symm rfl rfl l18 ?_; intro A6 c6 w6 V4 X4 HS zc zf)
     refine img.wp_world (p := fun wx => Aside0 (V4 = upd V3 9 (.slice A6 ((X3 9).length + 1) c6) ∧ X4 = upd X3 9 (X3 9 ++ [.int .i64 a]) ∧ Sh m wx bk s1 V4 X4 ∧ Fr m w2 wx)) ⟨HS.out.1, HS.out.2.1, HS.out.2.2.1, HQ.out.2.2.2.then_ HS.out.2.2.2⟩ ?_
     clear HS zc zf q18 l18 e5
     rintro w7 HS
     go_cut [] from 97 to 109 (fun wx => ∃ v5 V5 X5, Aside0 (V5 = upd V4 10 v5 ∧ X5 = upd X4 10 (X4 10 ++ [.int .i64 b]) ∧ Sh m wx bk s1 V5 X5 ∧ Fr m w2 wx))
     case first =>
      obtain ⟨A3, c3, e3⟩ := HS.out.2.2.1.slice (j := 10) (by decide)
      have q19 := (HS.out.2.2.1.cell (j := 10) (by decide)).trans (congrArg some e3)
      have q19a := ((HS.out.2.2.1.still (grown_alloc w7 (.cells #[.int .i64 b] 3))).cell (j := 10) (by decide)).trans (congrArg some e3)
      have r19 : w7.cell? ⟨b19, k, none⟩ = some (.int .i64 b) := HS.out.2.2.1.vcell (j := 210) (by decide) (by rw [HS.out.1, upd_ne _ _ (by decide), HQ.out.1, upd_ne _ _ (by decide), HP.out.1, upd_ne _ _ (by decide)]; exact hm6.out.1.trans HH.out.2.2.2.1) (by rw [HS.out.2.1, upd_ne _ _ (by decide), HQ.out.2.1, upd_ne _ _ (by decide), HP.out.2.1, upd_ne _ _ (by decide)]; exact (congrArg (·[k]?) hm6.out.2).trans HRW.out.2.2.2)
      have l19 : ((X4 10).length + 1) * 8 ≤ 140737488355328 := by rw [HS.out.2.1, upd_ne _ _ (by decide), HQ.out.2.1, upd_ne _ _ (by decide), HP.out.2.1, upd_ne _ _ (by decide)]; have := hML.out; omega
      go_region_law (refine push_step (HS.out.2.2.1.still (grown_drew w7)) 10 (by decide) (by decide) (by decide) (by rfl) (.tmp 101) (.tmp 106) 25 (.int .i64 0) 8 (by rfl) Tryz.underlying25 i3 rfl (by decide) e3.symm (by rfl) rfl l19 ?_; intro A4 c4 w8 V5 X5 HT zc zf)
      all_goals
       go_wp2_with (fail)
       go_meet
       exact ⟨_, V5, X5, ⟨HT.out.1, HT.out.2.1, HT.out.2.2.1, HS.out.2.2.2.then_ ((HS.out.2.2.1.frS (grown_drew w7)).then_ HT.out.2.2.2)⟩⟩
     case rest =>
      obtain ⟨v5, V5, X5, HT⟩ := hcut
      have HZ : Aside0 (Mq m w bk 0 R s V X (k + 1) s1 V5 X5 wc) := ⟨by
       refine HM.out.wait (by decide) HRW.out.1 HRW.out.2.1 HT.out.2.2.1 (chain4 HP.out.2.1 HQ.out.2.1 HS.out.2.1 HT.out.2.1 (by decide) (by decide) (by decide)) (fun j h1 h2 h3 h4 => ?_) HT.out.2.2.2
       rw [HT.out.1, upd_ne _ _ h4, HS.out.1, upd_ne _ _ h3, HQ.out.1, upd_ne _ _ h2, HP.out.1, upd_ne _ _ h1]⟩
      clear HM HP HQ HS HT
      go_wp2_with (fail)
      go_roundw
      case rel => exact ⟨k + 1, by omega, by go_num, ⟨s1, V5, X5, HZ.out⟩⟩
      case measure => simp [intOf]; omega
   ·have k1 := (HM.out.sh.cell (j := 1) (by decide)).trans (congrArg some ((HM.out.rest 1 (by decide) (by decide)).1.trans HA.out.v1))
    have k0 := (HM.out.sh.cell (j := 0) (by decide)).trans (congrArg some ((HM.out.rest 0 (by decide) (by decide)).1.trans HA.out.v0))
    have HK01 := Aside0.mk (And.intro k0 k1)
    clear k0 k1
    go_upto_region 16 with (fail)
    refine img.wp_world (p := fun wx => Aside0 (Mq m w bk 0 R s V X k s1 V1 X1 wx)) ⟨HM.out.still (grown_drewN wr nq)⟩ ?_
    clear HM r15 r16 r18 r19 k2 HK01
    rintro w2 HM
    have k1 := (HM.out.sh.cell (j := 1) (by decide)).trans (congrArg some ((HM.out.rest 1 (by decide) (by decide)).1.trans HA.out.v1))
    have k0 := (HM.out.sh.cell (j := 0) (by decide)).trans (congrArg some ((HM.out.rest 0 (by decide) (by decide)).1.trans HA.out.v0))
    have f1 := HM.out.sh.frozen 1
    have r16 := HM.out.sh.vcell (j := 207) (by decide) (hm3.out.1.trans HH.out.2.1) ((congrArg (·[k]?) hm3.out.2).trans HRW.out.2.1)
    have HS := Aside0.mk (sg_bytes _ _ w2 (HPR.out.q0 HM.out.sh HM.out.ty))
    go_upto_region 17 with (first | (go_at_call 77; refine HS.out.mono ?_; rintro en w3 ⟨rfl, hg3⟩; have HM3 := Aside0.mk (HM.out.still hg3); have k13 := (HM3.out.sh.cell (j := 1) (by decide)).trans (congrArg some ((HM3.out.rest 1 (by decide) (by decide)).1.trans HA.out.v1)); have f13 := HM3.out.sh.frozen 1; have ee := img.setCell_id k13))
    clear HS k0 k1 f1 r16 ee k13 f13 hg3 HM
    have HM := HM3
    clear HM3
    have HW := Aside0.mk (Wq.start HM.out.sh HM.out.ty HVL.out)
    have hnl : nl ≤ 1099511627776 := HLL.out.2.2.2.2.2.1
    go_wp2_with (fail)
    go_loopw [9] (fun i wx => ∃ j : Nat, j ≤ nl ∧ i = .int .i64 j ∧ Aside0 (∃ s2 L2, Wq m bk 0 1 s1 V1 X1 w3 (.slice A nl c) A nl c s2 L2 wx)) (fun i _ => nl - (intOf i).toNat)
    case atStart => exact ⟨0, Nat.zero_le _, rfl, ⟨s1, L, HW.out⟩⟩
    case round =>
     clear HW
     obtain ⟨j, hj, rfl, HW⟩ := hrel
     obtain ⟨s2, L2, hw⟩ := HW.out
     clear HW
     by_cases hjl : j < nl
     ·obtain ⟨ka, rfl⟩ := hw.blk (by omega)
      obtain ⟨z, hz, fz⟩ := hw.at rfl (i := j) (by simpa [esz] using hjl)
      have HW2 := Aside0.mk (fun (y : Int) => hw.set rfl (by decide) hjl (x := .int .u8 y) ⟨y, rfl⟩ rfl)
      clear hw
      go_wp2_with (fail)
      go_roundw
      case rel => exact ⟨j + 1, by omega, by go_num, ⟨HW2.out _⟩⟩
      case measure => simp [intOf]; omega
     ·obtain rfl : nl = j := by omega
      obtain ⟨w4, rfl⟩ : ∃ w4, w4 = wr := ⟨_, rfl⟩
      have HL := Aside0.mk (hw.sh.vl hw.ty hw.vl).2
      have HW := Aside0.mk hw
      clear hw
      obtain ⟨A13, c13, e13⟩ := HW.out.sh.slice (j := 4) (by decide)
      have q13 := (HW.out.sh.cell (j := 4) (by decide)).trans (congrArg some e13)
      have l13 : ((X1 4).length + 1) * 24 ≤ 140737488355328 := by have := hML.out; omega
      go_wp2_with (at_builtin; refine push_row HW.out.sh 4 (by decide) (by decide) (by decide) rfl (.tmp 151) (.tmp 153) 24 (.slice none 0 0) 24 rfl Tryz.underlying24 i40 rfl (by decide) e13.symm rfl rfl l13 ?_; intro A1 c1 w5 V2 X2 HP zc zf)
      refine img.wp_world (p := fun wx => Aside0 (V2 = upd V1 4 (.slice A1 ((X1 4).length + 1) c1) ∧ X2 = upd X1 4 (X1 4 ++ [.slice A nl c]) ∧ Sh m wx bk s2 V2 X2 ∧ Fr m w3 wx)) ⟨HP.out.1, HP.out.2.1, HP.out.2.2.1, HW.out.fr.then_ HP.out.2.2.2⟩ ?_
      clear HP zc zf q13 l13 e13
      rintro w6 HP
      go_cut [] from 157 to 168 (fun wx => ∃ kc cc v3 V3 X3, Aside0 (s2 kc = none ∧ V3 = upd V2 5 v3 ∧ X3 = upd X2 5 (X2 5 ++ [.slice (some ⟨kc, 0, none⟩) nl cc]) ∧ Sh m wx bk (upd s2 kc (some ⟨0, 3, nl, cc, L2⟩)) V3 X3 ∧ Fr m w3 wx))
      case first =>
       obtain ⟨A14, c14, e14⟩ := HP.out.2.2.1.slice (j := 5) (by decide)
       have l14 : ((X2 5).length + 1) * 24 ≤ 140737488355328 := by rw [HP.out.2.1, upd_ne _ _ (by decide)]; have := hML.out; omega
       have q14 := (HP.out.2.2.1.cell (j := 5) (by decide)).trans (congrArg some e14)
       have q14a := ((HP.out.2.2.1.still (grown_alloc w6 (.cells #[] 5))).cell (j := 5) (by decide)).trans (congrArg some e14)
       have HC := Aside0.mk (((HP.out.2.2.1.still (grown_drew w6)).still (grown_alloc w6.drew (.cells #[] 5))).vl HW.out.ty HW.out.vl).2.2.2.2.1
       go_region_law (first
        | (refine copy_step (by rfl) (.tmp 162) (.tmp 163) 40 5 (.int .u8 0) 1 1 (by rfl) Tryz.underlying40 i5 rfl (by decide) w6.heap.size (by rfl) A nl c (by rfl) (World.ownsRow_made w6.drew #[] 0 (Nat.zero_le _) (by decide) rfl) L2 HL.out.1 HL.out.2.1 HL.out.2.2.1 HC.out HL.out.2.2.2.2.1 HL.out.2.2.2.2.2.1 (by have := HL.out.2.2.2.2.2.1; omega) ?_; intro kc cc w7 HC3; have HS3 := Aside0.mk (copied (q := 0) HP.out.2.2.1 rfl HC3.out); have q14c := (HS3.out.2.1.cell (j := 5) (by decide)).trans (congrArg some e14); have q14e := ((HS3.out.2.1.still (grown_alloc w7 (.cells #[.slice (some ⟨kc, 0, none⟩) nl cc] 40))).cell (j := 5) (by decide)).trans (congrArg some e14))
        | (refine push_step HS3.out.2.1 5 (by decide) (by decide) (by decide) (by rfl) (.tmp 161) (.tmp 165) 24 (.slice none 0 0) 24 (by rfl) Tryz.underlying24 i40 rfl (by decide) e14.symm (by rfl) rfl l14 ?_; intro A2 c2 w8 V3 X3 HQ zc zf))
       all_goals
        go_wp2_with (fail)
        go_meet
        exact ⟨kc, cc, _, V3, X3, ⟨HS3.out.1, HQ.out.1, HQ.out.2.1, HQ.out.2.2.1, (HP.out.2.2.2.then_ HS3.out.2.2).then_ HQ.out.2.2.2⟩⟩
      case rest =>
       obtain ⟨kc, cc, v3, V3, X3, HQ⟩ := hcut
       obtain ⟨A17, c17, e17⟩ := HQ.out.2.2.2.1.slice (j := 8) (by decide)
       have q17 := (HQ.out.2.2.2.1.cell (j := 8) (by decide)).trans (congrArg some e17)
       have l17 : ((X3 8).length + 1) * 24 ≤ 140737488355328 := by rw [HQ.out.2.2.1, upd_ne _ _ (by decide), HP.out.2.1, upd_ne _ _ (by decide)]; have := hML.out; omega
       go_upto_region 24 with (at_builtin; refine push_row HQ.out.2.2.2.1 8 (by decide) (by decide) (by decide) rfl (.tmp 173) (.tmp 175) 24 (.slice none 0 0) 24 rfl Tryz.underlying24 i40 rfl (by decide) e17.symm rfl rfl l17 ?_; intro A3 c3 w9 V4 X4 HS zc zf)
       refine img.wp_world (p := fun wx => Aside0 (V4 = upd V3 8 (.slice A3 ((X3 8).length + 1) c3) ∧ X4 = upd X3 8 (X3 8 ++ [.slice A nl c]) ∧ Sh m wx bk (upd s2 kc (some ⟨0, 3, nl, cc, L2⟩)) V4 X4 ∧ Fr m w3 wx)) ⟨HS.out.1, HS.out.2.1, HS.out.2.2.1, HQ.out.2.2.2.2.then_ HS.out.2.2.2⟩ ?_
       clear HS zc zf q17 l17 e17
       rintro w10 HS
       obtain ⟨A20, c20, e20⟩ := HS.out.2.2.1.slice (j := 11) (by decide)
       have q20 := (HS.out.2.2.1.cell (j := 11) (by decide)).trans (congrArg some e20)
       have l20 : ((X4 11).length + 1) * 8 ≤ 140737488355328 := by rw [HS.out.2.1, upd_ne _ _ (by decide), HQ.out.2.2.1, upd_ne _ _ (by decide), HP.out.2.1, upd_ne _ _ (by decide)]; have := hML.out; omega
       go_wp2_with (at_builtin; refine push_row HS.out.2.2.1 11 (by decide) (by decide) (by decide) rfl (.tmp 183) (.tmp 185) 25 (.int .i64 0) 8 rfl Tryz.underlying25 i3 rfl (by decide) e20.symm rfl rfl l20 ?_; intro A4 c4 w11 V5 X5 HT zc zf)
       have HZ := Aside0.mk (HM.out.mark (by decide) HRW.out.1 HRW.out.2.1 HW.out.vl HW.out.ty HW.out.old HQ.out.1 HT.out.2.2.1 (chain4 HP.out.2.1 HQ.out.2.2.1 HS.out.2.1 HT.out.2.1 (by decide) (by decide) (by decide)) (fun j h1 h2 h3 h4 => by
        rw [HT.out.1, upd_ne _ _ h4, HS.out.1, upd_ne _ _ h3, HQ.out.2.1, upd_ne _ _ h2, HP.out.1, upd_ne _ _ h1]) (HS.out.2.2.2.then_ HT.out.2.2.2))
       clear HM HP HQ HS HT HW HL zc zf q20 l20 e20
       go_roundw
       case rel => exact ⟨k + 1, by omega, by go_num, ⟨by obtain ⟨s3, h3⟩ := HZ.out; exact ⟨s3, V5, X5, h3⟩⟩⟩
       case measure => simp [intOf]; omega
  ·obtain rfl : n = k := by omega
   have HF := Aside0.mk (hm.fin HA.out (by simp [live]) (Nat.le_of_eq HH.out.2.2.2.2.1.symm))
   have HR := Aside0.mk hm.fr
   clear hm
   go_wp2_with (fail)
   go_end0
   exact ⟨rfl, HR.out, s1, V1, X1, HF.out⟩
set_option maxHeartbeats 8000000 in
set_option maxRecDepth 100000 in
theorem mark_ints (h : All m w bk s V X R d) : Calls Tryz.prog 96 #[.pointer (some ⟨bk, 0, none⟩)] w (Done m w bk R d) := by
 have hK := h.ks 1 (by simp [live])
 obtain ⟨n, hn⟩ : ∃ n, n = (X 15).length := ⟨_, rfl⟩
 have hl16 : (X 16).length = n := hK.ki.wn.trans hn.symm
 have hl18 : (X 18).length = n := hK.m1.trans hn.symm
 have hl19 : (X 19).length = n := hK.m2.trans hn.symm
 have hnn : n ≤ 1099511627776 := by rw [hn]; exact (h.lens (q := 1) (by simp [live])).2.2.1
 obtain ⟨A15, c15, h15⟩ := h.sh.slice (j := 15) (by decide)
 obtain ⟨A16, c16, h16⟩ := h.sh.slice (j := 16) (by decide)
 obtain ⟨A18, c18, h18⟩ := h.sh.slice (j := 18) (by decide)
 obtain ⟨A19, c19, h19⟩ := h.sh.slice (j := 19) (by decide)
 rw [← hn] at h15
 rw [hl16] at h16
 rw [hl18] at h18
 rw [hl19] at h19
 have k15 := (h.sh.cell (j := 15) (by decide)).trans (congrArg some h15)
 have k16 := (h.sh.cell (j := 16) (by decide)).trans (congrArg some h16)
 have k18 := (h.sh.cell (j := 18) (by decide)).trans (congrArg some h18)
 have k19 := (h.sh.cell (j := 19) (by decide)).trans (congrArg some h19)
 have f15 := h.sh.frozen 15
 have f16 := h.sh.frozen 16
 have f18 := h.sh.frozen 18
 have f19 := h.sh.frozen 19
 have HA := Aside0.mk h
 by_cases hn0 : n = 0
 ·subst hn0
  clear h hK hn hl16 hl18 hl19 h15 h16 h18 h19
  go_enter Tryz.func96, Tryz.ntmps96
  go_wp2
  refine bodyPost_ret (results_none rfl _ _ _) rfl ?_
  exact ⟨rfl, Fr.refl _ _, s, V, X, HA.out⟩
 have hi0 : ((n : Int) == 0) = false := by simp; omega
 obtain ⟨t0, ht0⟩ := h.v2
 obtain ⟨b15, rfl⟩ : ∃ b, A15 = some ⟨b, 0, none⟩ := by
  obtain ⟨b, c, e, -⟩ := h.sh.rcell (j := 15) (by decide) (List.getElem?_eq_getElem (show 0 < (X 15).length by omega))
  rw [h15] at e; injection e with e; exact ⟨b, e⟩
 obtain ⟨b16, rfl⟩ : ∃ b, A16 = some ⟨b, 0, none⟩ := by
  obtain ⟨b, c, e, -⟩ := h.sh.rcell (j := 16) (by decide) (List.getElem?_eq_getElem (show 0 < (X 16).length by omega))
  rw [h16] at e; injection e with e; exact ⟨b, e⟩
 obtain ⟨b18, rfl⟩ : ∃ b, A18 = some ⟨b, 0, none⟩ := by
  obtain ⟨b, c, e, -⟩ := h.sh.rcell (j := 18) (by decide) (List.getElem?_eq_getElem (show 0 < (X 18).length by omega))
  rw [h18] at e; injection e with e; exact ⟨b, e⟩
 obtain ⟨b19, rfl⟩ : ∃ b, A19 = some ⟨b, 0, none⟩ := by
  obtain ⟨b, c, e, -⟩ := h.sh.rcell (j := 19) (by decide) (List.getElem?_eq_getElem (show 0 < (X 19).length by omega))
  rw [h19] at e; injection e with e; exact ⟨b, e⟩
 have HM0 := Aside0.mk (Mq.start h (q := 1) (by simp [live]))
 have HH := Aside0.mk (And.intro h15 (And.intro h16 (And.intro h18 (And.intro h19 (And.intro hn (And.intro hl16 (And.intro hl18 hl19)))))))
 clear h hK h15 h16 h18 h19 hl16 hl18 hl19 hn
 go_enter Tryz.func96, Tryz.ntmps96
 go_upto_region 6 with (fail)
 refine img.wp_world (p := fun wx => Aside0 (∃ V' X', Mq m w bk 1 R s V X 0 s V' X' wx)) HM0 ?_
 clear HM0 k15 k16 k18 k19 f15 f16 f18 f19
 rintro w1 HM0
 go_wp2_with (fail)
 go_loopw [6] (fun i wr => ∃ k : Nat, k ≤ n ∧ i = .int .i64 k ∧ Aside0 (∃ s1 V1 X1, Mq m w bk 1 R s V X k s1 V1 X1 wr)) (fun i _ => n - (intOf i).toNat)
 case atStart => exact ⟨0, Nat.zero_le _, rfl, ⟨s, HM0.out⟩⟩
 case round =>
  clear HM0
  obtain ⟨k, hk, rfl, HM⟩ := hrel
  obtain ⟨s1, V1, X1, hm⟩ := HM.out
  clear HM
  by_cases hlt : k < n
  ·obtain ⟨v, hv⟩ : ∃ v, (X 15)[k]? = some v := ⟨_, List.getElem?_eq_getElem (by have := HH.out.2.2.2.2.1; omega)⟩
   obtain ⟨u, hu⟩ : ∃ u, (X 16)[k]? = some u := ⟨_, List.getElem?_eq_getElem (by have := HH.out.2.2.2.2.2.1; omega)⟩
   obtain ⟨x, hx⟩ : ∃ x, (X 18)[k]? = some x := ⟨_, List.getElem?_eq_getElem (by have := HH.out.2.2.2.2.2.2.1; omega)⟩
   obtain ⟨y, hy⟩ : ∃ y, (X 19)[k]? = some y := ⟨_, List.getElem?_eq_getElem (by have := HH.out.2.2.2.2.2.2.2; omega)⟩
   obtain ⟨a, rfl⟩ := (HA.out.ks 1 (by simp [live])).n1 x (List.mem_of_getElem? hx)
   obtain ⟨b, rfl⟩ := (HA.out.ks 1 (by simp [live])).n2 y (List.mem_of_getElem? hy)
   have hwe := hm.ki.we v (List.mem_append_right _ (by rw [drop_cons hv]; exact List.mem_cons_self ..))
   have hwp : Pr s1 1 (· = 1) (2 ≤ ·) v u := by
    have h7 := hm.l7
    refine hm.ki.wp (X1 15).length v u ?_ ?_
    ·rw [List.getElem?_append_right (Nat.le_refl _), Nat.sub_self, List.getElem?_drop]; exact hv
    ·rw [List.getElem?_append_right (by show (X1 16).length ≤ _; exact Nat.le_of_eq h7), show (X1 15).length - (X1 (7 + 9 * 1)).length = 0 by rw [h7]; exact Nat.sub_self _, List.getElem?_drop]; exact hu
   have HPR := Aside0.mk hwp
   obtain ⟨A, nl, c, L, hvl⟩ := hwe.vl
   obtain ⟨-, B, nu, -, cu, -, rfl, -⟩ := hwp
   obtain ⟨rfl, hL⟩ := hm.sh.vl hm.ty hvl
   have r15 := hm.sh.vcell (j := 215) (by decide) (hm.c2.1.trans HH.out.1) ((congrArg (·[k]?) hm.c2.2).trans hv)
   have r16 := hm.sh.vcell (j := 216) (by decide) (hm.c3.1.trans HH.out.2.1) ((congrArg (·[k]?) hm.c3.2).trans hu)
   have r18 := hm.sh.vcell (j := 218) (by decide) (hm.c5.1.trans HH.out.2.2.1) ((congrArg (·[k]?) hm.c5.2).trans hx)
   have r19 := hm.sh.vcell (j := 219) (by decide) (hm.c6.1.trans HH.out.2.2.2.1) ((congrArg (·[k]?) hm.c6.2).trans hy)
   have k2 := (hm.sh.cell (j := 2) (by decide)).trans (congrArg some ((hm.rest 2 (by decide) (by decide)).1.trans ht0))
   have HM := Aside0.mk hm
   have hm3 : Aside0 (V1 216 = V 16 ∧ X1 216 = X 16) := ⟨hm.c3⟩
   have hm6 : Aside0 (V1 219 = V 19 ∧ X1 219 = X 19) := ⟨hm.c6⟩
   clear hm
   go_upto_region 11 with (fail)
   go_quiet (fail)
   have HRW := Aside0.mk (And.intro hv (And.intro hu (And.intro hx hy)))
   have hML : Aside0 ((X1 13).length ≤ 1099511627776 ∧ (X1 14).length ≤ 1099511627776 ∧ (X1 15).length ≤ 1099511627776 ∧ (X1 16).length ≤ 1099511627776 ∧ (X1 17).length ≤ 1099511627776 ∧ (X1 18).length ≤ 1099511627776 ∧ (X1 19).length ≤ 1099511627776 ∧ (X1 20).length ≤ 1099511627776) := ⟨HM.out.lens HA.out.rb⟩
   have HVL := Aside0.mk hvl
   have HLL := Aside0.mk hL
   clear hv hu hx hy hwe hvl hL
   by_cases hd : t0 < b
   ·go_upto_region 12 with (fail)
    refine img.wp_world (p := fun wx => Aside0 (Mq m w bk 1 R s V X k s1 V1 X1 wx)) ⟨HM.out.still (grown_drewN wr nq)⟩ ?_
    clear HM r15 r16 r18 r19 k2
    rintro w2 HM
    obtain ⟨A2, c2, e2⟩ := HM.out.sh.slice (j := 15) (by decide)
    have q15 := (HM.out.sh.cell (j := 15) (by decide)).trans (congrArg some e2)
    have l15 : ((X1 15).length + 1) * 24 ≤ 140737488355328 := by have := hML.out; omega
    go_wp2_with (at_builtin; refine push_row HM.out.sh 15 (by decide) (by decide) (by decide) rfl (.tmp 68) (.tmp 70) 26 (.slice none 0 0) 24 rfl Tryz.underlying26 i25 rfl (by decide) e2.symm rfl rfl l15 ?_; intro A1 c1 w3 V2 X2 HP zc zf)
    refine img.wp_world (p := fun wx => Aside0 (V2 = upd V1 15 (.slice A1 ((X1 15).length + 1) c1) ∧ X2 = upd X1 15 (X1 15 ++ [.slice A nl c]) ∧ Sh m wx bk s1 V2 X2 ∧ Fr m w2 wx)) HP ?_
    clear HP zc zf q15 l15 e2
    rintro w4 HP
    go_cut [] from 74 to 86 (fun wx => ∃ v3 V3 X3, Aside0 (V3 = upd V2 16 v3 ∧ X3 = upd X2 16 (X2 16 ++ [.slice B nu cu]) ∧ Sh m wx bk s1 V3 X3 ∧ Fr m w2 wx))
    case first =>
     obtain ⟨A3, c3, e3⟩ := HP.out.2.2.1.slice (j := 16) (by decide)
     have q16 := (HP.out.2.2.1.cell (j := 16) (by decide)).trans (congrArg some e3)
     have q16a := ((HP.out.2.2.1.still (grown_alloc w4 (.cells #[.slice B nu cu] 25))).cell (j := 16) (by decide)).trans (congrArg some e3)
     have r16 : w4.cell? ⟨b16, k, none⟩ = some (.slice B nu cu) := HP.out.2.2.1.vcell (j := 216) (by decide) (by rw [HP.out.1, upd_ne _ _ (by decide)]; exact hm3.out.1.trans HH.out.2.1) (by rw [HP.out.2.1, upd_ne _ _ (by decide)]; exact (congrArg (·[k]?) hm3.out.2).trans HRW.out.2.1)
     have l16 : ((X2 16).length + 1) * 24 ≤ 140737488355328 := by rw [HP.out.2.1, upd_ne _ _ (by decide)]; have := hML.out; omega
     go_region_law (refine push_step (HP.out.2.2.1.still (grown_drew w4)) 16 (by decide) (by decide) (by decide) (by rfl) (.tmp 78) (.tmp 83) 26 (.slice none 0 0) 24 (by rfl) Tryz.underlying26 i25 rfl (by decide) e3.symm (by rfl) rfl l16 ?_; intro A4 c4 w5 V3 X3 HQ zc zf)
     all_goals
      go_wp2_with (fail)
      go_meet
      exact ⟨_, V3, X3, ⟨HQ.out.1, HQ.out.2.1, HQ.out.2.2.1, HP.out.2.2.2.then_ ((HP.out.2.2.1.frS (grown_drew w4)).then_ HQ.out.2.2.2)⟩⟩
    case rest =>
     obtain ⟨v3, V3, X3, HQ⟩ := hcut
     obtain ⟨A5, c5, e5⟩ := HQ.out.2.2.1.slice (j := 18) (by decide)
     have q18 := (HQ.out.2.2.1.cell (j := 18) (by decide)).trans (congrArg some e5)
     have l18 : ((X3 18).length + 1) * 8 ≤ 140737488355328 := by rw [HQ.out.2.1, upd_ne _ _ (by decide), HP.out.2.1, upd_ne _ _ (by decide)]; have := hML.out; omega
     go_wp2_with (at_builtin; refine push_row HQ.out.2.2.1 18 (by decide) (by decide) (by decide) rfl (.tmp 91) (.tmp 93) 25 (.int .i64 0) 8 rfl Tryz.underlying25 i3 rfl (by decide) e5.symm rfl rfl l18 ?_; intro A6 c6 w6 V4 X4 HS zc zf)
     refine img.wp_world (p := fun wx => Aside0 (V4 = upd V3 18 (.slice A6 ((X3 18).length + 1) c6) ∧ X4 = upd X3 18 (X3 18 ++ [.int .i64 a]) ∧ Sh m wx bk s1 V4 X4 ∧ Fr m w2 wx)) ⟨HS.out.1, HS.out.2.1, HS.out.2.2.1, HQ.out.2.2.2.then_ HS.out.2.2.2⟩ ?_
     clear HS zc zf q18 l18 e5
     rintro w7 HS
     go_cut [] from 97 to 109 (fun wx => ∃ v5 V5 X5, Aside0 (V5 = upd V4 19 v5 ∧ X5 = upd X4 19 (X4 19 ++ [.int .i64 b]) ∧ Sh m wx bk s1 V5 X5 ∧ Fr m w2 wx))
     case first =>
      obtain ⟨A3, c3, e3⟩ := HS.out.2.2.1.slice (j := 19) (by decide)
      have q19 := (HS.out.2.2.1.cell (j := 19) (by decide)).trans (congrArg some e3)
      have q19a := ((HS.out.2.2.1.still (grown_alloc w7 (.cells #[.int .i64 b] 3))).cell (j := 19) (by decide)).trans (congrArg some e3)
      have r19 : w7.cell? ⟨b19, k, none⟩ = some (.int .i64 b) := HS.out.2.2.1.vcell (j := 219) (by decide) (by rw [HS.out.1, upd_ne _ _ (by decide), HQ.out.1, upd_ne _ _ (by decide), HP.out.1, upd_ne _ _ (by decide)]; exact hm6.out.1.trans HH.out.2.2.2.1) (by rw [HS.out.2.1, upd_ne _ _ (by decide), HQ.out.2.1, upd_ne _ _ (by decide), HP.out.2.1, upd_ne _ _ (by decide)]; exact (congrArg (·[k]?) hm6.out.2).trans HRW.out.2.2.2)
      have l19 : ((X4 19).length + 1) * 8 ≤ 140737488355328 := by rw [HS.out.2.1, upd_ne _ _ (by decide), HQ.out.2.1, upd_ne _ _ (by decide), HP.out.2.1, upd_ne _ _ (by decide)]; have := hML.out; omega
      go_region_law (refine push_step (HS.out.2.2.1.still (grown_drew w7)) 19 (by decide) (by decide) (by decide) (by rfl) (.tmp 101) (.tmp 106) 25 (.int .i64 0) 8 (by rfl) Tryz.underlying25 i3 rfl (by decide) e3.symm (by rfl) rfl l19 ?_; intro A4 c4 w8 V5 X5 HT zc zf)
      all_goals
       go_wp2_with (fail)
       go_meet
       exact ⟨_, V5, X5, ⟨HT.out.1, HT.out.2.1, HT.out.2.2.1, HS.out.2.2.2.then_ ((HS.out.2.2.1.frS (grown_drew w7)).then_ HT.out.2.2.2)⟩⟩
     case rest =>
      obtain ⟨v5, V5, X5, HT⟩ := hcut
      have HZ : Aside0 (Mq m w bk 1 R s V X (k + 1) s1 V5 X5 wc) := ⟨by
       refine HM.out.wait (by decide) HRW.out.1 HRW.out.2.1 HT.out.2.2.1 (chain4 HP.out.2.1 HQ.out.2.1 HS.out.2.1 HT.out.2.1 (by decide) (by decide) (by decide)) (fun j h1 h2 h3 h4 => ?_) HT.out.2.2.2
       rw [HT.out.1, upd_ne _ _ h4, HS.out.1, upd_ne _ _ h3, HQ.out.1, upd_ne _ _ h2, HP.out.1, upd_ne _ _ h1]⟩
      clear HM HP HQ HS HT
      go_wp2_with (fail)
      go_roundw
      case rel => exact ⟨k + 1, by omega, by go_num, ⟨s1, V5, X5, HZ.out⟩⟩
      case measure => simp [intOf]; omega
   ·have k1 := (HM.out.sh.cell (j := 1) (by decide)).trans (congrArg some ((HM.out.rest 1 (by decide) (by decide)).1.trans HA.out.v1))
    have k0 := (HM.out.sh.cell (j := 0) (by decide)).trans (congrArg some ((HM.out.rest 0 (by decide) (by decide)).1.trans HA.out.v0))
    have HK01 := Aside0.mk (And.intro k0 k1)
    clear k0 k1
    go_upto_region 16 with (fail)
    refine img.wp_world (p := fun wx => Aside0 (Mq m w bk 1 R s V X k s1 V1 X1 wx)) ⟨HM.out.still (grown_drewN wr nq)⟩ ?_
    clear HM r15 r16 r18 r19 k2 HK01
    rintro w2 HM
    have k1 := (HM.out.sh.cell (j := 1) (by decide)).trans (congrArg some ((HM.out.rest 1 (by decide) (by decide)).1.trans HA.out.v1))
    have k0 := (HM.out.sh.cell (j := 0) (by decide)).trans (congrArg some ((HM.out.rest 0 (by decide) (by decide)).1.trans HA.out.v0))
    have f1 := HM.out.sh.frozen 1
    have r16 := HM.out.sh.vcell (j := 216) (by decide) (hm3.out.1.trans HH.out.2.1) ((congrArg (·[k]?) hm3.out.2).trans HRW.out.2.1)
    have HS := Aside0.mk (sg_ints _ _ w2 (HPR.out.q1 HM.out.sh HM.out.ty))
    go_upto_region 17 with (first | (go_at_call 78; refine HS.out.mono ?_; rintro en w3 ⟨rfl, hg3⟩; have HM3 := Aside0.mk (HM.out.still hg3); have k13 := (HM3.out.sh.cell (j := 1) (by decide)).trans (congrArg some ((HM3.out.rest 1 (by decide) (by decide)).1.trans HA.out.v1)); have f13 := HM3.out.sh.frozen 1; have ee := img.setCell_id k13))
    clear HS k0 k1 f1 r16 ee k13 f13 hg3 HM
    have HM := HM3
    clear HM3
    have HW := Aside0.mk (Wq.start HM.out.sh HM.out.ty HVL.out)
    have hnl : nl ≤ 1099511627776 := HLL.out.2.2.2.2.2.1
    go_wp2_with (fail)
    go_loopw [9] (fun i wx => ∃ j : Nat, j ≤ nl ∧ i = .int .i64 j ∧ Aside0 (∃ s2 L2, Wq m bk 1 1 s1 V1 X1 w3 (.slice A nl c) A nl c s2 L2 wx)) (fun i _ => nl - (intOf i).toNat)
    case atStart => exact ⟨0, Nat.zero_le _, rfl, ⟨s1, L, HW.out⟩⟩
    case round =>
     clear HW
     obtain ⟨j, hj, rfl, HW⟩ := hrel
     obtain ⟨s2, L2, hw⟩ := HW.out
     clear HW
     by_cases hjl : j < nl
     ·obtain ⟨ka, rfl⟩ := hw.blk (by omega)
      obtain ⟨z, hz, fz⟩ := hw.at rfl (i := j) (by simpa [esz] using hjl)
      have HW2 := Aside0.mk (fun (y : Int) => hw.set rfl (by decide) hjl (x := .int .i64 y) ⟨y, rfl⟩ rfl)
      clear hw
      go_wp2_with (fail)
      go_roundw
      case rel => exact ⟨j + 1, by omega, by go_num, ⟨HW2.out _⟩⟩
      case measure => simp [intOf]; omega
     ·obtain rfl : nl = j := by omega
      obtain ⟨w4, rfl⟩ : ∃ w4, w4 = wr := ⟨_, rfl⟩
      have HL := Aside0.mk (hw.sh.vl hw.ty hw.vl).2
      have HW := Aside0.mk hw
      clear hw
      obtain ⟨A13, c13, e13⟩ := HW.out.sh.slice (j := 13) (by decide)
      have q13 := (HW.out.sh.cell (j := 13) (by decide)).trans (congrArg some e13)
      have l13 : ((X1 13).length + 1) * 24 ≤ 140737488355328 := by have := hML.out; omega
      go_wp2_with (at_builtin; refine push_row HW.out.sh 13 (by decide) (by decide) (by decide) rfl (.tmp 150) (.tmp 152) 26 (.slice none 0 0) 24 rfl Tryz.underlying26 i25 rfl (by decide) e13.symm rfl rfl l13 ?_; intro A1 c1 w5 V2 X2 HP zc zf)
      refine img.wp_world (p := fun wx => Aside0 (V2 = upd V1 13 (.slice A1 ((X1 13).length + 1) c1) ∧ X2 = upd X1 13 (X1 13 ++ [.slice A nl c]) ∧ Sh m wx bk s2 V2 X2 ∧ Fr m w3 wx)) ⟨HP.out.1, HP.out.2.1, HP.out.2.2.1, HW.out.fr.then_ HP.out.2.2.2⟩ ?_
      clear HP zc zf q13 l13 e13
      rintro w6 HP
      go_cut [] from 156 to 167 (fun wx => ∃ kc cc v3 V3 X3, Aside0 (s2 kc = none ∧ V3 = upd V2 14 v3 ∧ X3 = upd X2 14 (X2 14 ++ [.slice (some ⟨kc, 0, none⟩) nl cc]) ∧ Sh m wx bk (upd s2 kc (some ⟨1, 3, nl, cc, L2⟩)) V3 X3 ∧ Fr m w3 wx))
      case first =>
       obtain ⟨A14, c14, e14⟩ := HP.out.2.2.1.slice (j := 14) (by decide)
       have l14 : ((X2 14).length + 1) * 24 ≤ 140737488355328 := by rw [HP.out.2.1, upd_ne _ _ (by decide)]; have := hML.out; omega
       have q14 := (HP.out.2.2.1.cell (j := 14) (by decide)).trans (congrArg some e14)
       have q14a := ((HP.out.2.2.1.still (grown_alloc w6 (.cells #[] 3))).cell (j := 14) (by decide)).trans (congrArg some e14)
       have HC := Aside0.mk (((HP.out.2.2.1.still (grown_drew w6)).still (grown_alloc w6.drew (.cells #[] 3))).vl HW.out.ty HW.out.vl).2.2.2.2.1
       go_region_law (first
        | (refine copy_step (by rfl) (.tmp 161) (.tmp 162) 25 3 (.int .i64 0) 1 8 (by rfl) Tryz.underlying25 i3 rfl (by decide) w6.heap.size (by rfl) A nl c (by rfl) (World.ownsRow_made w6.drew #[] 0 (Nat.zero_le _) (by decide) rfl) L2 HL.out.1 HL.out.2.1 HL.out.2.2.1 HC.out HL.out.2.2.2.2.1 HL.out.2.2.2.2.2.1 (by have := HL.out.2.2.2.2.2.1; omega) ?_; intro kc cc w7 HC3; have HS3 := Aside0.mk (copied (q := 1) HP.out.2.2.1 rfl HC3.out); have q14c := (HS3.out.2.1.cell (j := 14) (by decide)).trans (congrArg some e14); have q14e := ((HS3.out.2.1.still (grown_alloc w7 (.cells #[.slice (some ⟨kc, 0, none⟩) nl cc] 25))).cell (j := 14) (by decide)).trans (congrArg some e14))
        | (refine push_step HS3.out.2.1 14 (by decide) (by decide) (by decide) (by rfl) (.tmp 160) (.tmp 164) 26 (.slice none 0 0) 24 (by rfl) Tryz.underlying26 i25 rfl (by decide) e14.symm (by rfl) rfl l14 ?_; intro A2 c2 w8 V3 X3 HQ zc zf))
       all_goals
        go_wp2_with (fail)
        go_meet
        exact ⟨kc, cc, _, V3, X3, ⟨HS3.out.1, HQ.out.1, HQ.out.2.1, HQ.out.2.2.1, (HP.out.2.2.2.then_ HS3.out.2.2).then_ HQ.out.2.2.2⟩⟩
      case rest =>
       obtain ⟨kc, cc, v3, V3, X3, HQ⟩ := hcut
       obtain ⟨A17, c17, e17⟩ := HQ.out.2.2.2.1.slice (j := 17) (by decide)
       have q17 := (HQ.out.2.2.2.1.cell (j := 17) (by decide)).trans (congrArg some e17)
       have l17 : ((X3 17).length + 1) * 24 ≤ 140737488355328 := by rw [HQ.out.2.2.1, upd_ne _ _ (by decide), HP.out.2.1, upd_ne _ _ (by decide)]; have := hML.out; omega
       go_upto_region 24 with (at_builtin; refine push_row HQ.out.2.2.2.1 17 (by decide) (by decide) (by decide) rfl (.tmp 172) (.tmp 174) 26 (.slice none 0 0) 24 rfl Tryz.underlying26 i25 rfl (by decide) e17.symm rfl rfl l17 ?_; intro A3 c3 w9 V4 X4 HS zc zf)
       refine img.wp_world (p := fun wx => Aside0 (V4 = upd V3 17 (.slice A3 ((X3 17).length + 1) c3) ∧ X4 = upd X3 17 (X3 17 ++ [.slice A nl c]) ∧ Sh m wx bk (upd s2 kc (some ⟨1, 3, nl, cc, L2⟩)) V4 X4 ∧ Fr m w3 wx)) ⟨HS.out.1, HS.out.2.1, HS.out.2.2.1, HQ.out.2.2.2.2.then_ HS.out.2.2.2⟩ ?_
       clear HS zc zf q17 l17 e17
       rintro w10 HS
       obtain ⟨A20, c20, e20⟩ := HS.out.2.2.1.slice (j := 20) (by decide)
       have q20 := (HS.out.2.2.1.cell (j := 20) (by decide)).trans (congrArg some e20)
       have l20 : ((X4 20).length + 1) * 8 ≤ 140737488355328 := by rw [HS.out.2.1, upd_ne _ _ (by decide), HQ.out.2.2.1, upd_ne _ _ (by decide), HP.out.2.1, upd_ne _ _ (by decide)]; have := hML.out; omega
       go_wp2_with (at_builtin; refine push_row HS.out.2.2.1 20 (by decide) (by decide) (by decide) rfl (.tmp 182) (.tmp 184) 25 (.int .i64 0) 8 rfl Tryz.underlying25 i3 rfl (by decide) e20.symm rfl rfl l20 ?_; intro A4 c4 w11 V5 X5 HT zc zf)
       have HZ := Aside0.mk (HM.out.mark (by decide) HRW.out.1 HRW.out.2.1 HW.out.vl HW.out.ty HW.out.old HQ.out.1 HT.out.2.2.1 (chain4 HP.out.2.1 HQ.out.2.2.1 HS.out.2.1 HT.out.2.1 (by decide) (by decide) (by decide)) (fun j h1 h2 h3 h4 => by
        rw [HT.out.1, upd_ne _ _ h4, HS.out.1, upd_ne _ _ h3, HQ.out.2.1, upd_ne _ _ h2, HP.out.1, upd_ne _ _ h1]) (HS.out.2.2.2.then_ HT.out.2.2.2))
       clear HM HP HQ HS HT HW HL zc zf q20 l20 e20
       go_roundw
       case rel => exact ⟨k + 1, by omega, by go_num, ⟨by obtain ⟨s3, h3⟩ := HZ.out; exact ⟨s3, V5, X5, h3⟩⟩⟩
       case measure => simp [intOf]; omega
  ·obtain rfl : n = k := by omega
   have HF := Aside0.mk (hm.fin HA.out (by simp [live]) (Nat.le_of_eq HH.out.2.2.2.2.1.symm))
   have HR := Aside0.mk hm.fr
   clear hm
   go_wp2_with (fail)
   go_end0
   exact ⟨rfl, HR.out, s1, V1, X1, HF.out⟩
set_option maxHeartbeats 8000000 in
set_option maxRecDepth 100000 in
theorem mark_words (h : All m w bk s V X R d) : Calls Tryz.prog 98 #[.pointer (some ⟨bk, 0, none⟩)] w (Done m w bk R d) := by
 have hK := h.ks 3 (by simp [live])
 obtain ⟨n, hn⟩ : ∃ n, n = (X 33).length := ⟨_, rfl⟩
 have hl16 : (X 34).length = n := hK.ki.wn.trans hn.symm
 have hl18 : (X 36).length = n := hK.m1.trans hn.symm
 have hl19 : (X 37).length = n := hK.m2.trans hn.symm
 have hnn : n ≤ 1099511627776 := by rw [hn]; exact (h.lens (q := 3) (by simp [live])).2.2.1
 obtain ⟨A15, c15, h15⟩ := h.sh.slice (j := 33) (by decide)
 obtain ⟨A16, c16, h16⟩ := h.sh.slice (j := 34) (by decide)
 obtain ⟨A18, c18, h18⟩ := h.sh.slice (j := 36) (by decide)
 obtain ⟨A19, c19, h19⟩ := h.sh.slice (j := 37) (by decide)
 rw [← hn] at h15
 rw [hl16] at h16
 rw [hl18] at h18
 rw [hl19] at h19
 have k15 := (h.sh.cell (j := 33) (by decide)).trans (congrArg some h15)
 have k16 := (h.sh.cell (j := 34) (by decide)).trans (congrArg some h16)
 have k18 := (h.sh.cell (j := 36) (by decide)).trans (congrArg some h18)
 have k19 := (h.sh.cell (j := 37) (by decide)).trans (congrArg some h19)
 have f15 := h.sh.frozen 33
 have f16 := h.sh.frozen 34
 have f18 := h.sh.frozen 36
 have f19 := h.sh.frozen 37
 have HA := Aside0.mk h
 by_cases hn0 : n = 0
 ·subst hn0
  clear h hK hn hl16 hl18 hl19 h15 h16 h18 h19
  go_enter Tryz.func98, Tryz.ntmps98
  go_wp2
  refine bodyPost_ret (results_none rfl _ _ _) rfl ?_
  exact ⟨rfl, Fr.refl _ _, s, V, X, HA.out⟩
 have hi0 : ((n : Int) == 0) = false := by simp; omega
 obtain ⟨t0, ht0⟩ := h.v2
 obtain ⟨b15, rfl⟩ : ∃ b, A15 = some ⟨b, 0, none⟩ := by
  obtain ⟨b, c, e, -⟩ := h.sh.rcell (j := 33) (by decide) (List.getElem?_eq_getElem (show 0 < (X 33).length by omega))
  rw [h15] at e; injection e with e; exact ⟨b, e⟩
 obtain ⟨b16, rfl⟩ : ∃ b, A16 = some ⟨b, 0, none⟩ := by
  obtain ⟨b, c, e, -⟩ := h.sh.rcell (j := 34) (by decide) (List.getElem?_eq_getElem (show 0 < (X 34).length by omega))
  rw [h16] at e; injection e with e; exact ⟨b, e⟩
 obtain ⟨b18, rfl⟩ : ∃ b, A18 = some ⟨b, 0, none⟩ := by
  obtain ⟨b, c, e, -⟩ := h.sh.rcell (j := 36) (by decide) (List.getElem?_eq_getElem (show 0 < (X 36).length by omega))
  rw [h18] at e; injection e with e; exact ⟨b, e⟩
 obtain ⟨b19, rfl⟩ : ∃ b, A19 = some ⟨b, 0, none⟩ := by
  obtain ⟨b, c, e, -⟩ := h.sh.rcell (j := 37) (by decide) (List.getElem?_eq_getElem (show 0 < (X 37).length by omega))
  rw [h19] at e; injection e with e; exact ⟨b, e⟩
 have HM0 := Aside0.mk (Mq.start h (q := 3) (by simp [live]))
 have HH := Aside0.mk (And.intro h15 (And.intro h16 (And.intro h18 (And.intro h19 (And.intro hn (And.intro hl16 (And.intro hl18 hl19)))))))
 clear h hK h15 h16 h18 h19 hl16 hl18 hl19 hn
 go_enter Tryz.func98, Tryz.ntmps98
 go_upto_region 6 with (fail)
 refine img.wp_world (p := fun wx => Aside0 (∃ V' X', Mq m w bk 3 R s V X 0 s V' X' wx)) HM0 ?_
 clear HM0 k15 k16 k18 k19 f15 f16 f18 f19
 rintro w1 HM0
 go_wp2_with (fail)
 go_loopw [6] (fun i wr => ∃ k : Nat, k ≤ n ∧ i = .int .i64 k ∧ Aside0 (∃ s1 V1 X1, Mq m w bk 3 R s V X k s1 V1 X1 wr)) (fun i _ => n - (intOf i).toNat)
 case atStart => exact ⟨0, Nat.zero_le _, rfl, ⟨s, HM0.out⟩⟩
 case round =>
  clear HM0
  obtain ⟨k, hk, rfl, HM⟩ := hrel
  obtain ⟨s1, V1, X1, hm⟩ := HM.out
  clear HM
  by_cases hlt : k < n
  ·obtain ⟨v, hv⟩ : ∃ v, (X 33)[k]? = some v := ⟨_, List.getElem?_eq_getElem (by have := HH.out.2.2.2.2.1; omega)⟩
   obtain ⟨u, hu⟩ : ∃ u, (X 34)[k]? = some u := ⟨_, List.getElem?_eq_getElem (by have := HH.out.2.2.2.2.2.1; omega)⟩
   obtain ⟨x, hx⟩ : ∃ x, (X 36)[k]? = some x := ⟨_, List.getElem?_eq_getElem (by have := HH.out.2.2.2.2.2.2.1; omega)⟩
   obtain ⟨y, hy⟩ : ∃ y, (X 37)[k]? = some y := ⟨_, List.getElem?_eq_getElem (by have := HH.out.2.2.2.2.2.2.2; omega)⟩
   obtain ⟨a, rfl⟩ := (HA.out.ks 3 (by simp [live])).n1 x (List.mem_of_getElem? hx)
   obtain ⟨b, rfl⟩ := (HA.out.ks 3 (by simp [live])).n2 y (List.mem_of_getElem? hy)
   have hwe := hm.ki.we v (List.mem_append_right _ (by rw [drop_cons hv]; exact List.mem_cons_self ..))
   have hwp : Pr s1 3 (· = 1) (2 ≤ ·) v u := by
    have h7 := hm.l7
    refine hm.ki.wp (X1 33).length v u ?_ ?_
    ·rw [List.getElem?_append_right (Nat.le_refl _), Nat.sub_self, List.getElem?_drop]; exact hv
    ·rw [List.getElem?_append_right (by show (X1 34).length ≤ _; exact Nat.le_of_eq h7), show (X1 33).length - (X1 (7 + 9 * 3)).length = 0 by rw [h7]; exact Nat.sub_self _, List.getElem?_drop]; exact hu
   have HPR := Aside0.mk hwp
   obtain ⟨A, nl, c, L, hvl⟩ := hwe.vl
   obtain ⟨-, B, nu, -, cu, -, rfl, -⟩ := hwp
   obtain ⟨rfl, hL⟩ := hm.sh.vl hm.ty hvl
   have r15 := hm.sh.vcell (j := 233) (by decide) (hm.c2.1.trans HH.out.1) ((congrArg (·[k]?) hm.c2.2).trans hv)
   have r16 := hm.sh.vcell (j := 234) (by decide) (hm.c3.1.trans HH.out.2.1) ((congrArg (·[k]?) hm.c3.2).trans hu)
   have r18 := hm.sh.vcell (j := 236) (by decide) (hm.c5.1.trans HH.out.2.2.1) ((congrArg (·[k]?) hm.c5.2).trans hx)
   have r19 := hm.sh.vcell (j := 237) (by decide) (hm.c6.1.trans HH.out.2.2.2.1) ((congrArg (·[k]?) hm.c6.2).trans hy)
   have k2 := (hm.sh.cell (j := 2) (by decide)).trans (congrArg some ((hm.rest 2 (by decide) (by decide)).1.trans ht0))
   have HM := Aside0.mk hm
   have hm3 : Aside0 (V1 234 = V 34 ∧ X1 234 = X 34) := ⟨hm.c3⟩
   have hm6 : Aside0 (V1 237 = V 37 ∧ X1 237 = X 37) := ⟨hm.c6⟩
   clear hm
   go_upto_region 11 with (fail)
   go_quiet (fail)
   have HRW := Aside0.mk (And.intro hv (And.intro hu (And.intro hx hy)))
   have hML : Aside0 ((X1 31).length ≤ 1099511627776 ∧ (X1 32).length ≤ 1099511627776 ∧ (X1 33).length ≤ 1099511627776 ∧ (X1 34).length ≤ 1099511627776 ∧ (X1 35).length ≤ 1099511627776 ∧ (X1 36).length ≤ 1099511627776 ∧ (X1 37).length ≤ 1099511627776 ∧ (X1 38).length ≤ 1099511627776) := ⟨HM.out.lens HA.out.rb⟩
   have HVL := Aside0.mk hvl
   have HLL := Aside0.mk hL
   clear hv hu hx hy hwe hvl hL
   by_cases hd : t0 < b
   ·go_upto_region 12 with (fail)
    refine img.wp_world (p := fun wx => Aside0 (Mq m w bk 3 R s V X k s1 V1 X1 wx)) ⟨HM.out.still (grown_drewN wr nq)⟩ ?_
    clear HM r15 r16 r18 r19 k2
    rintro w2 HM
    obtain ⟨A2, c2, e2⟩ := HM.out.sh.slice (j := 33) (by decide)
    have q15 := (HM.out.sh.cell (j := 33) (by decide)).trans (congrArg some e2)
    have l15 : ((X1 33).length + 1) * 24 ≤ 140737488355328 := by have := hML.out; omega
    go_wp2_with (at_builtin; refine push_row HM.out.sh 33 (by decide) (by decide) (by decide) rfl (.tmp 68) (.tmp 70) 28 (.slice none 0 0) 24 rfl Tryz.underlying28 i64 rfl (by decide) e2.symm rfl rfl l15 ?_; intro A1 c1 w3 V2 X2 HP zc zf)
    refine img.wp_world (p := fun wx => Aside0 (V2 = upd V1 33 (.slice A1 ((X1 33).length + 1) c1) ∧ X2 = upd X1 33 (X1 33 ++ [.slice A nl c]) ∧ Sh m wx bk s1 V2 X2 ∧ Fr m w2 wx)) HP ?_
    clear HP zc zf q15 l15 e2
    rintro w4 HP
    go_cut [] from 74 to 86 (fun wx => ∃ v3 V3 X3, Aside0 (V3 = upd V2 34 v3 ∧ X3 = upd X2 34 (X2 34 ++ [.slice B nu cu]) ∧ Sh m wx bk s1 V3 X3 ∧ Fr m w2 wx))
    case first =>
     obtain ⟨A3, c3, e3⟩ := HP.out.2.2.1.slice (j := 34) (by decide)
     have q16 := (HP.out.2.2.1.cell (j := 34) (by decide)).trans (congrArg some e3)
     have q16a := ((HP.out.2.2.1.still (grown_alloc w4 (.cells #[.slice B nu cu] 64))).cell (j := 34) (by decide)).trans (congrArg some e3)
     have r16 : w4.cell? ⟨b16, k, none⟩ = some (.slice B nu cu) := HP.out.2.2.1.vcell (j := 234) (by decide) (by rw [HP.out.1, upd_ne _ _ (by decide)]; exact hm3.out.1.trans HH.out.2.1) (by rw [HP.out.2.1, upd_ne _ _ (by decide)]; exact (congrArg (·[k]?) hm3.out.2).trans HRW.out.2.1)
     have l16 : ((X2 34).length + 1) * 24 ≤ 140737488355328 := by rw [HP.out.2.1, upd_ne _ _ (by decide)]; have := hML.out; omega
     go_region_law (refine push_step (HP.out.2.2.1.still (grown_drew w4)) 34 (by decide) (by decide) (by decide) (by rfl) (.tmp 78) (.tmp 83) 28 (.slice none 0 0) 24 (by rfl) Tryz.underlying28 i64 rfl (by decide) e3.symm (by rfl) rfl l16 ?_; intro A4 c4 w5 V3 X3 HQ zc zf)
     all_goals
      go_wp2_with (fail)
      go_meet
      exact ⟨_, V3, X3, ⟨HQ.out.1, HQ.out.2.1, HQ.out.2.2.1, HP.out.2.2.2.then_ ((HP.out.2.2.1.frS (grown_drew w4)).then_ HQ.out.2.2.2)⟩⟩
    case rest =>
     obtain ⟨v3, V3, X3, HQ⟩ := hcut
     obtain ⟨A5, c5, e5⟩ := HQ.out.2.2.1.slice (j := 36) (by decide)
     have q18 := (HQ.out.2.2.1.cell (j := 36) (by decide)).trans (congrArg some e5)
     have l18 : ((X3 36).length + 1) * 8 ≤ 140737488355328 := by rw [HQ.out.2.1, upd_ne _ _ (by decide), HP.out.2.1, upd_ne _ _ (by decide)]; have := hML.out; omega
     go_wp2_with (at_builtin; refine push_row HQ.out.2.2.1 36 (by decide) (by decide) (by decide) rfl (.tmp 91) (.tmp 93) 25 (.int .i64 0) 8 rfl Tryz.underlying25 i3 rfl (by decide) e5.symm rfl rfl l18 ?_; intro A6 c6 w6 V4 X4 HS zc zf)
     refine img.wp_world (p := fun wx => Aside0 (V4 = upd V3 36 (.slice A6 ((X3 36).length + 1) c6) ∧ X4 = upd X3 36 (X3 36 ++ [.int .i64 a]) ∧ Sh m wx bk s1 V4 X4 ∧ Fr m w2 wx)) ⟨HS.out.1, HS.out.2.1, HS.out.2.2.1, HQ.out.2.2.2.then_ HS.out.2.2.2⟩ ?_
     clear HS zc zf q18 l18 e5
     rintro w7 HS
     go_cut [] from 97 to 109 (fun wx => ∃ v5 V5 X5, Aside0 (V5 = upd V4 37 v5 ∧ X5 = upd X4 37 (X4 37 ++ [.int .i64 b]) ∧ Sh m wx bk s1 V5 X5 ∧ Fr m w2 wx))
     case first =>
      obtain ⟨A3, c3, e3⟩ := HS.out.2.2.1.slice (j := 37) (by decide)
      have q19 := (HS.out.2.2.1.cell (j := 37) (by decide)).trans (congrArg some e3)
      have q19a := ((HS.out.2.2.1.still (grown_alloc w7 (.cells #[.int .i64 b] 3))).cell (j := 37) (by decide)).trans (congrArg some e3)
      have r19 : w7.cell? ⟨b19, k, none⟩ = some (.int .i64 b) := HS.out.2.2.1.vcell (j := 237) (by decide) (by rw [HS.out.1, upd_ne _ _ (by decide), HQ.out.1, upd_ne _ _ (by decide), HP.out.1, upd_ne _ _ (by decide)]; exact hm6.out.1.trans HH.out.2.2.2.1) (by rw [HS.out.2.1, upd_ne _ _ (by decide), HQ.out.2.1, upd_ne _ _ (by decide), HP.out.2.1, upd_ne _ _ (by decide)]; exact (congrArg (·[k]?) hm6.out.2).trans HRW.out.2.2.2)
      have l19 : ((X4 37).length + 1) * 8 ≤ 140737488355328 := by rw [HS.out.2.1, upd_ne _ _ (by decide), HQ.out.2.1, upd_ne _ _ (by decide), HP.out.2.1, upd_ne _ _ (by decide)]; have := hML.out; omega
      go_region_law (refine push_step (HS.out.2.2.1.still (grown_drew w7)) 37 (by decide) (by decide) (by decide) (by rfl) (.tmp 101) (.tmp 106) 25 (.int .i64 0) 8 (by rfl) Tryz.underlying25 i3 rfl (by decide) e3.symm (by rfl) rfl l19 ?_; intro A4 c4 w8 V5 X5 HT zc zf)
      all_goals
       go_wp2_with (fail)
       go_meet
       exact ⟨_, V5, X5, ⟨HT.out.1, HT.out.2.1, HT.out.2.2.1, HS.out.2.2.2.then_ ((HS.out.2.2.1.frS (grown_drew w7)).then_ HT.out.2.2.2)⟩⟩
     case rest =>
      obtain ⟨v5, V5, X5, HT⟩ := hcut
      have HZ : Aside0 (Mq m w bk 3 R s V X (k + 1) s1 V5 X5 wc) := ⟨by
       refine HM.out.wait (by decide) HRW.out.1 HRW.out.2.1 HT.out.2.2.1 (chain4 HP.out.2.1 HQ.out.2.1 HS.out.2.1 HT.out.2.1 (by decide) (by decide) (by decide)) (fun j h1 h2 h3 h4 => ?_) HT.out.2.2.2
       rw [HT.out.1, upd_ne _ _ h4, HS.out.1, upd_ne _ _ h3, HQ.out.1, upd_ne _ _ h2, HP.out.1, upd_ne _ _ h1]⟩
      clear HM HP HQ HS HT
      go_wp2_with (fail)
      go_roundw
      case rel => exact ⟨k + 1, by omega, by go_num, ⟨s1, V5, X5, HZ.out⟩⟩
      case measure => simp [intOf]; omega
   ·have k1 := (HM.out.sh.cell (j := 1) (by decide)).trans (congrArg some ((HM.out.rest 1 (by decide) (by decide)).1.trans HA.out.v1))
    have k0 := (HM.out.sh.cell (j := 0) (by decide)).trans (congrArg some ((HM.out.rest 0 (by decide) (by decide)).1.trans HA.out.v0))
    have HK01 := Aside0.mk (And.intro k0 k1)
    clear k0 k1
    go_upto_region 16 with (fail)
    refine img.wp_world (p := fun wx => Aside0 (Mq m w bk 3 R s V X k s1 V1 X1 wx)) ⟨HM.out.still (grown_drewN wr nq)⟩ ?_
    clear HM r15 r16 r18 r19 k2 HK01
    rintro w2 HM
    have k1 := (HM.out.sh.cell (j := 1) (by decide)).trans (congrArg some ((HM.out.rest 1 (by decide) (by decide)).1.trans HA.out.v1))
    have k0 := (HM.out.sh.cell (j := 0) (by decide)).trans (congrArg some ((HM.out.rest 0 (by decide) (by decide)).1.trans HA.out.v0))
    have f1 := HM.out.sh.frozen 1
    have r16 := HM.out.sh.vcell (j := 234) (by decide) (hm3.out.1.trans HH.out.2.1) ((congrArg (·[k]?) hm3.out.2).trans HRW.out.2.1)
    have HS := Aside0.mk (sg_words _ _ w2 (HPR.out.q3 HM.out.sh HM.out.ty))
    go_upto_region 17 with (first | (go_at_call 80; refine HS.out.mono ?_; rintro en w3 ⟨rfl, hg3⟩; have HM3 := Aside0.mk (HM.out.still hg3); have k13 := (HM3.out.sh.cell (j := 1) (by decide)).trans (congrArg some ((HM3.out.rest 1 (by decide) (by decide)).1.trans HA.out.v1)); have f13 := HM3.out.sh.frozen 1; have ee := img.setCell_id k13))
    clear HS k0 k1 f1 r16 ee k13 f13 hg3 HM
    have HM := HM3
    clear HM3
    have HW := Aside0.mk (Wq.start HM.out.sh HM.out.ty HVL.out)
    have hnl : nl ≤ 1099511627776 := HLL.out.2.2.2.2.2.1
    go_wp2_with (fail)
    go_loopw [9] (fun i wx => ∃ j : Nat, j ≤ nl ∧ i = .int .i64 j ∧ Aside0 (∃ s2 L2, Wq m bk 3 1 s1 V1 X1 w3 (.slice A nl c) A nl c s2 L2 wx)) (fun i _ => nl - (intOf i).toNat)
    case atStart => exact ⟨0, Nat.zero_le _, rfl, ⟨s1, L, HW.out⟩⟩
    case round =>
     clear HW
     obtain ⟨j, hj, rfl, HW⟩ := hrel
     obtain ⟨s2, L2, hw⟩ := HW.out
     clear HW
     by_cases hjl : j < nl
     ·obtain ⟨ka, rfl⟩ := hw.blk (by omega)
      obtain ⟨z, hz, fz⟩ := hw.at rfl (i := j) (by simpa [esz] using hjl)
      have HW2 := Aside0.mk (fun (y : Int) => hw.set rfl (by decide) hjl (x := .int .u64 y) ⟨y, rfl⟩ rfl)
      clear hw
      go_wp2_with (fail)
      go_roundw
      case rel => exact ⟨j + 1, by omega, by go_num, ⟨HW2.out _⟩⟩
      case measure => simp [intOf]; omega
     ·obtain rfl : nl = j := by omega
      obtain ⟨w4, rfl⟩ : ∃ w4, w4 = wr := ⟨_, rfl⟩
      have HL := Aside0.mk (hw.sh.vl hw.ty hw.vl).2
      have HW := Aside0.mk hw
      clear hw
      obtain ⟨A13, c13, e13⟩ := HW.out.sh.slice (j := 31) (by decide)
      have q13 := (HW.out.sh.cell (j := 31) (by decide)).trans (congrArg some e13)
      have l13 : ((X1 31).length + 1) * 24 ≤ 140737488355328 := by have := hML.out; omega
      go_wp2_with (at_builtin; refine push_row HW.out.sh 31 (by decide) (by decide) (by decide) rfl (.tmp 151) (.tmp 153) 28 (.slice none 0 0) 24 rfl Tryz.underlying28 i64 rfl (by decide) e13.symm rfl rfl l13 ?_; intro A1 c1 w5 V2 X2 HP zc zf)
      refine img.wp_world (p := fun wx => Aside0 (V2 = upd V1 31 (.slice A1 ((X1 31).length + 1) c1) ∧ X2 = upd X1 31 (X1 31 ++ [.slice A nl c]) ∧ Sh m wx bk s2 V2 X2 ∧ Fr m w3 wx)) ⟨HP.out.1, HP.out.2.1, HP.out.2.2.1, HW.out.fr.then_ HP.out.2.2.2⟩ ?_
      clear HP zc zf q13 l13 e13
      rintro w6 HP
      go_cut [] from 157 to 168 (fun wx => ∃ kc cc v3 V3 X3, Aside0 (s2 kc = none ∧ V3 = upd V2 32 v3 ∧ X3 = upd X2 32 (X2 32 ++ [.slice (some ⟨kc, 0, none⟩) nl cc]) ∧ Sh m wx bk (upd s2 kc (some ⟨3, 3, nl, cc, L2⟩)) V3 X3 ∧ Fr m w3 wx))
      case first =>
       obtain ⟨A14, c14, e14⟩ := HP.out.2.2.1.slice (j := 32) (by decide)
       have l14 : ((X2 32).length + 1) * 24 ≤ 140737488355328 := by rw [HP.out.2.1, upd_ne _ _ (by decide)]; have := hML.out; omega
       have q14 := (HP.out.2.2.1.cell (j := 32) (by decide)).trans (congrArg some e14)
       have q14a := ((HP.out.2.2.1.still (grown_alloc w6 (.cells #[] 42))).cell (j := 32) (by decide)).trans (congrArg some e14)
       have HC := Aside0.mk (((HP.out.2.2.1.still (grown_drew w6)).still (grown_alloc w6.drew (.cells #[] 42))).vl HW.out.ty HW.out.vl).2.2.2.2.1
       go_region_law (first
        | (refine copy_step (by rfl) (.tmp 162) (.tmp 163) 64 42 (.int .u64 0) 1 8 (by rfl) Tryz.underlying64 i42 rfl (by decide) w6.heap.size (by rfl) A nl c (by rfl) (World.ownsRow_made w6.drew #[] 0 (Nat.zero_le _) (by decide) rfl) L2 HL.out.1 HL.out.2.1 HL.out.2.2.1 HC.out HL.out.2.2.2.2.1 HL.out.2.2.2.2.2.1 (by have := HL.out.2.2.2.2.2.1; omega) ?_; intro kc cc w7 HC3; have HS3 := Aside0.mk (copied (q := 3) HP.out.2.2.1 rfl HC3.out); have q14c := (HS3.out.2.1.cell (j := 32) (by decide)).trans (congrArg some e14); have q14e := ((HS3.out.2.1.still (grown_alloc w7 (.cells #[.slice (some ⟨kc, 0, none⟩) nl cc] 64))).cell (j := 32) (by decide)).trans (congrArg some e14))
        | (refine push_step HS3.out.2.1 32 (by decide) (by decide) (by decide) (by rfl) (.tmp 161) (.tmp 165) 28 (.slice none 0 0) 24 (by rfl) Tryz.underlying28 i64 rfl (by decide) e14.symm (by rfl) rfl l14 ?_; intro A2 c2 w8 V3 X3 HQ zc zf))
       all_goals
        go_wp2_with (fail)
        go_meet
        exact ⟨kc, cc, _, V3, X3, ⟨HS3.out.1, HQ.out.1, HQ.out.2.1, HQ.out.2.2.1, (HP.out.2.2.2.then_ HS3.out.2.2).then_ HQ.out.2.2.2⟩⟩
      case rest =>
       obtain ⟨kc, cc, v3, V3, X3, HQ⟩ := hcut
       obtain ⟨A17, c17, e17⟩ := HQ.out.2.2.2.1.slice (j := 35) (by decide)
       have q17 := (HQ.out.2.2.2.1.cell (j := 35) (by decide)).trans (congrArg some e17)
       have l17 : ((X3 35).length + 1) * 24 ≤ 140737488355328 := by rw [HQ.out.2.2.1, upd_ne _ _ (by decide), HP.out.2.1, upd_ne _ _ (by decide)]; have := hML.out; omega
       go_upto_region 24 with (at_builtin; refine push_row HQ.out.2.2.2.1 35 (by decide) (by decide) (by decide) rfl (.tmp 173) (.tmp 175) 28 (.slice none 0 0) 24 rfl Tryz.underlying28 i64 rfl (by decide) e17.symm rfl rfl l17 ?_; intro A3 c3 w9 V4 X4 HS zc zf)
       refine img.wp_world (p := fun wx => Aside0 (V4 = upd V3 35 (.slice A3 ((X3 35).length + 1) c3) ∧ X4 = upd X3 35 (X3 35 ++ [.slice A nl c]) ∧ Sh m wx bk (upd s2 kc (some ⟨3, 3, nl, cc, L2⟩)) V4 X4 ∧ Fr m w3 wx)) ⟨HS.out.1, HS.out.2.1, HS.out.2.2.1, HQ.out.2.2.2.2.then_ HS.out.2.2.2⟩ ?_
       clear HS zc zf q17 l17 e17
       rintro w10 HS
       obtain ⟨A20, c20, e20⟩ := HS.out.2.2.1.slice (j := 38) (by decide)
       have q20 := (HS.out.2.2.1.cell (j := 38) (by decide)).trans (congrArg some e20)
       have l20 : ((X4 38).length + 1) * 8 ≤ 140737488355328 := by rw [HS.out.2.1, upd_ne _ _ (by decide), HQ.out.2.2.1, upd_ne _ _ (by decide), HP.out.2.1, upd_ne _ _ (by decide)]; have := hML.out; omega
       go_wp2_with (at_builtin; refine push_row HS.out.2.2.1 38 (by decide) (by decide) (by decide) rfl (.tmp 183) (.tmp 185) 25 (.int .i64 0) 8 rfl Tryz.underlying25 i3 rfl (by decide) e20.symm rfl rfl l20 ?_; intro A4 c4 w11 V5 X5 HT zc zf)
       have HZ := Aside0.mk (HM.out.mark (by decide) HRW.out.1 HRW.out.2.1 HW.out.vl HW.out.ty HW.out.old HQ.out.1 HT.out.2.2.1 (chain4 HP.out.2.1 HQ.out.2.2.1 HS.out.2.1 HT.out.2.1 (by decide) (by decide) (by decide)) (fun j h1 h2 h3 h4 => by
        rw [HT.out.1, upd_ne _ _ h4, HS.out.1, upd_ne _ _ h3, HQ.out.2.1, upd_ne _ _ h2, HP.out.1, upd_ne _ _ h1]) (HS.out.2.2.2.then_ HT.out.2.2.2))
       clear HM HP HQ HS HT HW HL zc zf q20 l20 e20
       go_roundw
       case rel => exact ⟨k + 1, by omega, by go_num, ⟨by obtain ⟨s3, h3⟩ := HZ.out; exact ⟨s3, V5, X5, h3⟩⟩⟩
       case measure => simp [intOf]; omega
  ·obtain rfl : n = k := by omega
   have HF := Aside0.mk (hm.fin HA.out (by simp [live]) (Nat.le_of_eq HH.out.2.2.2.2.1.symm))
   have HR := Aside0.mk hm.fr
   clear hm
   go_wp2_with (fail)
   go_end0
   exact ⟨rfl, HR.out, s1, V1, X1, HF.out⟩
end
end Go.Proofs.YtihjjkoddphmiaaGreatDoor.bk
