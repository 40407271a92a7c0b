/-
  The walks of (*Book).grow..: what was written over is laid on.
-/
import Derived.Test.YtihjjkoddphmiaaGreatDoorNBkT
import Derived.Test.YtihjjkoddphmiaaGreatDoorNBkX
namespace Go.Proofs.YtihjjkoddphmiaaGreatDoor.bk
open Go.RowKit Go.Proofs.YtihjjkoddphmiaaGreatDoorW.PrintWords Go.Proofs.YtihjjkoddphmiaaGreatDoorW.PrintLast Go.Proofs.YtihjjkoddphmiaaGreatDoorW.PrintMore Go.Proofs.YtihjjkoddphmiaaGreatDoor.PImageApart
set_option linter.unusedVariables false
set_option linter.unusedSimpArgs false
section
variable {m : Nat → Prop} {w : World} {bk R : Nat} {s : Nat → Option Bl} {V : Nat → Value} {X : Nat → List Value} {d : Int}
set_option maxHeartbeats 8000000 in
set_option maxRecDepth 100000 in
theorem grow_bytes (h : All m w bk s V X R d) : Calls Tryz.prog 108 #[.pointer (some ⟨bk, 0, none⟩)] w (Done m w bk R d) := by
 have hK := h.ks 0 (by simp [live])
 obtain ⟨nf, hnf⟩ : ∃ nf, nf = (X 8).length := ⟨_, rfl⟩
 have hl20 : (X 11).length = nf := hK.m3.trans hnf.symm
 have hnn : nf ≤ 1099511627776 := by rw [hnf]; exact (h.lens (q := 0) (by simp [live])).2.2.2.2.1
 obtain ⟨A17, c17, h17⟩ := h.sh.slice (j := 8) (by decide)
 obtain ⟨A20, c20, h20⟩ := h.sh.slice (j := 11) (by decide)
 rw [← hnf] at h17
 rw [hl20] at h20
 have HA := Aside0.mk h
 have HH := Aside0.mk (And.intro h17 (And.intro h20 (And.intro hnf hl20)))
 have HM0 := Aside0.mk (Gq.start h (q := 0) (by simp [live]))
 clear h hK h17 h20 hnf hl20
 go_enter Tryz.func108, Tryz.ntmps108
 go_wp2_with (fail)
 go_loopw [2] (fun i wr => ∃ k : Nat, k ≤ nf ∧ i = .int .i64 k ∧ Aside0 (∃ s1 V1 X1, Gq m w bk 0 R s V X k s1 V1 X1 wr)) (fun i _ => nf - (intOf i).toNat)
 case atStart => exact ⟨0, Nat.zero_le _, rfl, ⟨s, V, X, HM0.out⟩⟩
 case round =>
  clear HM0
  obtain ⟨k, hk, rfl, HM⟩ := hrel
  obtain ⟨s1, V1, X1, hm⟩ := HM.out
  clear HM
  have k17 := (hm.sh.cell (j := 8) (by decide)).trans (congrArg some ((hm.rest 8 (by decide) (by decide) (by decide)).1.trans HH.out.1))
  have k20 := (hm.sh.cell (j := 11) (by decide)).trans (congrArg some ((hm.rest 11 (by decide) (by decide) (by decide)).1.trans HH.out.2.1))
  by_cases hlt : k < nf
  ·obtain ⟨v, hv⟩ : ∃ v, (X 8)[k]? = some v := ⟨_, List.getElem?_eq_getElem (by have := HH.out.2.2.1; omega)⟩
   obtain ⟨x, hx⟩ : ∃ x, (X 11)[k]? = some x := ⟨_, List.getElem?_eq_getElem (by have := HH.out.2.2.2; omega)⟩
   obtain ⟨a, rfl⟩ := (HA.out.ks 0 (by simp [live])).n3 x (List.mem_of_getElem? hx)
   obtain ⟨b17, y17, z17, r17⟩ := hm.sh.rcell (j := 8) (by decide) ((congrArg (·[k]?) (hm.rest 8 (by decide) (by decide) (by decide)).2).trans hv)
   obtain ⟨b20, y20, z20, r20⟩ := hm.sh.rcell (j := 11) (by decide) ((congrArg (·[k]?) (hm.rest 11 (by decide) (by decide) (by decide)).2).trans hx)
   rw [(hm.rest 8 (by decide) (by decide) (by decide)).1, HH.out.1] at z17
   rw [(hm.rest 11 (by decide) (by decide) (by decide)).1, HH.out.2.1] at z20
   obtain rfl : A17 = some ⟨b17, 0, none⟩ := by injection z17
   obtain rfl : A20 = some ⟨b20, 0, none⟩ := by injection z20
   clear z17 z20
   have hfe := hm.ki.fe v (by rw [drop_cons hv]; exact List.mem_cons_self ..)
   obtain ⟨A, n, c, L, hvl⟩ := hfe.vl
   obtain ⟨rfl, hL⟩ := hm.sh.vl hm.ty hvl
   have hn30 : n ≤ 1073741824 := hL.2.2.2.2.2.2 (by decide)
   have HW0 := Aside0.mk (Gw.start hm.sh hm.ty hvl)
   have HM := Aside0.mk hm
   have HV := Aside0.mk hv
   have hML : Aside0 ((X1 4).length ≤ 1099511627776 ∧ (X1 5).length ≤ 1099511627776) := ⟨hm.lens HA.out.rb⟩
   clear hm hv hx hfe hvl hL
   go_upto_region 5 with (fail)
   obtain ⟨w3, rfl⟩ : ∃ w3, w3 = wr := ⟨_, rfl⟩
   clear k17 k20 r17 r20
   go_wp2_with (fail)
   go_loopw [4, 5] (fun u4 u5 wr => ∃ (i : Nat) (A2 : Option Addr) (c2 : Nat), i ≤ 150 ∧ u5 = .int .i64 i ∧ u4 = .slice A2 (n + i) c2 ∧ Aside0 (∃ s2 L2, Gw m bk 0 s1 V1 X1 w3 (.slice A n c) s2 (.slice A2 (n + i) c2) A2 (n + i) c2 L2 wr)) (fun _ u5 _ => 150 - (intOf u5).toNat)
   case atStart => exact ⟨0, A, c, Nat.zero_le _, rfl, rfl, ⟨by obtain ⟨s2, h2⟩ := HW0.out; exact ⟨s2, L, h2⟩⟩⟩
   case round =>
    clear HW0
    obtain ⟨i, A2, c2, hi, rfl, rfl, HW⟩ := hrel
    obtain ⟨s2, L2, hw⟩ := HW.out
    clear HW
    by_cases hif : i < 150
    ·have HW := Aside0.mk hw
     clear hw
     go_wp2_with (at_builtin; refine grow_row HW.out rfl rfl (.tmp 33) (.tmp 40) 40 (.int .u8 0) 1 _ rfl Tryz.underlying40 i5 rfl (by decide) (by decide) rfl rfl ⟨_, rfl⟩ rfl (fun u hu => by rw [List.mem_singleton.1 hu]; rfl) (by omega) (by decide) ?_; intro s3 A3 c3 w5 HW3)
     go_roundw
     case rel => exact ⟨i + 1, A3, c3, by omega, by go_num, rfl, ⟨s3, HW3.out⟩⟩
     case measure => simp [intOf]; omega
    ·obtain rfl : i = 150 := by omega
     obtain ⟨w4, rfl⟩ : ∃ w4, w4 = wr := ⟨_, rfl⟩
     obtain ⟨ng, hng⟩ : ∃ ng, ng = n + 150 := ⟨_, rfl⟩
     rw [← hng] at hw ⊢
     clear hng
     have HL := Aside0.mk (hw.sh.vl hw.ty hw.vl).2
     have HW := Aside0.mk hw
     clear hw
     obtain ⟨A13, c13, e13⟩ := HW.out.sh.slice (j := 4) (by decide)
     have q13 := (HW.out.sh.cell (j := 4) (by decide)).trans (congrArg some e13)
     have l13 : ((X1 4).length + 1) * 24 ≤ 140737488355328 := by have := hML.out; omega
     go_wp2_with (at_builtin; refine push_row HW.out.sh 4 (by decide) (by decide) (by decide) rfl (.tmp 46) (.tmp 48) 24 (.slice none 0 0) 24 rfl Tryz.underlying24 i40 rfl (by decide) e13.symm rfl rfl l13 ?_; intro A1 c1 w5 V2 X2 HP zc zf)
     refine img.wp_world (p := fun wx => Aside0 (V2 = upd V1 4 (.slice A1 ((X1 4).length + 1) c1) ∧ X2 = upd X1 4 (X1 4 ++ [.slice A2 ng c2]) ∧ Sh m wx bk s2 V2 X2 ∧ Fr m w3 wx)) ⟨HP.out.1, HP.out.2.1, HP.out.2.2.1, HW.out.fr.then_ HP.out.2.2.2⟩ ?_
     clear HP zc zf q13 l13 e13
     rintro w6 HP
     obtain ⟨A14, c14, e14⟩ := HP.out.2.2.1.slice (j := 5) (by decide)
     have l14 : ((X2 5).length + 1) * 24 ≤ 140737488355328 := by rw [HP.out.2.1, upd_ne _ _ (by decide)]; have := hML.out; omega
     have q14 := (HP.out.2.2.1.cell (j := 5) (by decide)).trans (congrArg some e14)
     have q14a := ((HP.out.2.2.1.still (grown_alloc w6 (.cells #[] 5))).cell (j := 5) (by decide)).trans (congrArg some e14)
     have HC := Aside0.mk (((HP.out.2.2.1.still (grown_drew w6)).still (grown_alloc w6.drew (.cells #[] 5))).vl HW.out.ty HW.out.vl).2.2.2.2.1
     go_region_law (first
      | (refine copy_step (by rfl) (.tmp 57) (.tmp 58) 40 5 (.int .u8 0) 1 1 (by rfl) Tryz.underlying40 i5 rfl (by decide) w6.heap.size (by rfl) A2 ng c2 (by rfl) (World.ownsRow_made w6.drew #[] 0 (Nat.zero_le _) (by decide) rfl) L2 HL.out.1 HL.out.2.1 HL.out.2.2.1 HC.out HL.out.2.2.2.2.1 HL.out.2.2.2.2.2.1 (by have := HL.out.2.2.2.2.2.1; omega) ?_; intro kc cc w7 HC3; have HS3 := Aside0.mk (copied (q := 0) HP.out.2.2.1 rfl HC3.out); have q14c := (HS3.out.2.1.cell (j := 5) (by decide)).trans (congrArg some e14); have q14e := ((HS3.out.2.1.still (grown_alloc w7 (.cells #[.slice (some ⟨kc, 0, none⟩) ng cc] 40))).cell (j := 5) (by decide)).trans (congrArg some e14))
      | (refine push_step HS3.out.2.1 5 (by decide) (by decide) (by decide) (by rfl) (.tmp 56) (.tmp 60) 24 (.slice none 0 0) 24 (by rfl) Tryz.underlying24 i40 rfl (by decide) e14.symm (by rfl) rfl l14 ?_; intro A2' c2' w8 V3 X3 HQ zc zf))
     all_goals
      have HZ : Aside0 (∃ s3, Gq m w bk 0 R s V X (k + 1) s3 V3 X3 (w8.setCell ⟨bk, 5, none⟩ (.slice A2' ((X2 5).length + 1) c2'))) := ⟨⟨_, HM.out.next (by decide) HV.out HW.out HS3.out.1 HQ.out.2.2.1 (by
       have e := HQ.out.2.1
       rw [HP.out.2.1, upd_ne _ _ (by decide : (5 : Nat) ≠ 4)] at e
       exact e) (fun j h1 h2 => by rw [HQ.out.1, upd_ne _ _ h2, HP.out.1, upd_ne _ _ h1]) ((HP.out.2.2.2.then_ HS3.out.2.2).then_ HQ.out.2.2.2)⟩⟩
      clear HM HP HQ HW HL HV HS3 zc zf q14 q14a q14c q14e e14 l14 HC HC3
      go_wp2_with (fail)
      go_roundw
      case rel => exact ⟨k + 1, by omega, by go_num, ⟨by obtain ⟨s3, h3⟩ := HZ.out; exact ⟨s3, V3, X3, h3⟩⟩⟩
      case measure => simp [intOf]; omega
  ·have HF := Aside0.mk (hm.fin HA.out (by simp [live]) (by have := HH.out.2.2.1; show (X 8).length ≤ k; omega))
   have f17 := hm.sh.frozen 8
   have f20 := hm.sh.frozen 11
   clear hm
   go_wp2_with (fail)
   go_end0
   obtain ⟨⟨V2, X2, h2⟩, h3⟩ := HF.out
   exact ⟨rfl, h3, s1, V2, X2, h2⟩
set_option maxHeartbeats 8000000 in
set_option maxRecDepth 100000 in
theorem grow_ints (h : All m w bk s V X R d) : Calls Tryz.prog 109 #[.pointer (some ⟨bk, 0, none⟩)] w (Done m w bk R d) := by
 have hK := h.ks 1 (by simp [live])
 obtain ⟨nf, hnf⟩ : ∃ nf, nf = (X 17).length := ⟨_, rfl⟩
 have hl20 : (X 20).length = nf := hK.m3.trans hnf.symm
 have hnn : nf ≤ 1099511627776 := by rw [hnf]; exact (h.lens (q := 1) (by simp [live])).2.2.2.2.1
 obtain ⟨A17, c17, h17⟩ := h.sh.slice (j := 17) (by decide)
 obtain ⟨A20, c20, h20⟩ := h.sh.slice (j := 20) (by decide)
 rw [← hnf] at h17
 rw [hl20] at h20
 have HA := Aside0.mk h
 have HH := Aside0.mk (And.intro h17 (And.intro h20 (And.intro hnf hl20)))
 have HM0 := Aside0.mk (Gq.start h (q := 1) (by simp [live]))
 clear h hK h17 h20 hnf hl20
 go_enter Tryz.func109, Tryz.ntmps109
 go_wp2_with (fail)
 go_loopw [2] (fun i wr => ∃ k : Nat, k ≤ nf ∧ i = .int .i64 k ∧ Aside0 (∃ s1 V1 X1, Gq m w bk 1 R s V X k s1 V1 X1 wr)) (fun i _ => nf - (intOf i).toNat)
 case atStart => exact ⟨0, Nat.zero_le _, rfl, ⟨s, V, X, HM0.out⟩⟩
 case round =>
  clear HM0
  obtain ⟨k, hk, rfl, HM⟩ := hrel
  obtain ⟨s1, V1, X1, hm⟩ := HM.out
  clear HM
  have k17 := (hm.sh.cell (j := 17) (by decide)).trans (congrArg some ((hm.rest 17 (by decide) (by decide) (by decide)).1.trans HH.out.1))
  have k20 := (hm.sh.cell (j := 20) (by decide)).trans (congrArg some ((hm.rest 20 (by decide) (by decide) (by decide)).1.trans HH.out.2.1))
  by_cases hlt : k < nf
  ·obtain ⟨v, hv⟩ : ∃ v, (X 17)[k]? = some v := ⟨_, List.getElem?_eq_getElem (by have := HH.out.2.2.1; omega)⟩
   obtain ⟨x, hx⟩ : ∃ x, (X 20)[k]? = some x := ⟨_, List.getElem?_eq_getElem (by have := HH.out.2.2.2; omega)⟩
   obtain ⟨a, rfl⟩ := (HA.out.ks 1 (by simp [live])).n3 x (List.mem_of_getElem? hx)
   obtain ⟨b17, y17, z17, r17⟩ := hm.sh.rcell (j := 17) (by decide) ((congrArg (·[k]?) (hm.rest 17 (by decide) (by decide) (by decide)).2).trans hv)
   obtain ⟨b20, y20, z20, r20⟩ := hm.sh.rcell (j := 20) (by decide) ((congrArg (·[k]?) (hm.rest 20 (by decide) (by decide) (by decide)).2).trans hx)
   rw [(hm.rest 17 (by decide) (by decide) (by decide)).1, HH.out.1] at z17
   rw [(hm.rest 20 (by decide) (by decide) (by decide)).1, HH.out.2.1] at z20
   obtain rfl : A17 = some ⟨b17, 0, none⟩ := by injection z17
   obtain rfl : A20 = some ⟨b20, 0, none⟩ := by injection z20
   clear z17 z20
   have hfe := hm.ki.fe v (by rw [drop_cons hv]; exact List.mem_cons_self ..)
   obtain ⟨A, n, c, L, hvl⟩ := hfe.vl
   obtain ⟨rfl, hL⟩ := hm.sh.vl hm.ty hvl
   have hn30 : n ≤ 1073741824 := hL.2.2.2.2.2.2 (by decide)
   have HW0 := Aside0.mk (Gw.start hm.sh hm.ty hvl)
   have HM := Aside0.mk hm
   have HV := Aside0.mk hv
   have hML : Aside0 ((X1 13).length ≤ 1099511627776 ∧ (X1 14).length ≤ 1099511627776) := ⟨hm.lens HA.out.rb⟩
   clear hm hv hx hfe hvl hL
   go_upto_region 5 with (fail)
   obtain ⟨w3, rfl⟩ : ∃ w3, w3 = wr := ⟨_, rfl⟩
   clear k17 k20 r17 r20
   go_wp2_with (fail)
   go_loopw [4, 5] (fun u4 u5 wr => ∃ (i : Nat) (A2 : Option Addr) (c2 : Nat), i ≤ 30 ∧ u5 = .int .i64 i ∧ u4 = .slice A2 (n + i) c2 ∧ Aside0 (∃ s2 L2, Gw m bk 1 s1 V1 X1 w3 (.slice A n c) s2 (.slice A2 (n + i) c2) A2 (n + i) c2 L2 wr)) (fun _ u5 _ => 30 - (intOf u5).toNat)
   case atStart => exact ⟨0, A, c, Nat.zero_le _, rfl, rfl, ⟨by obtain ⟨s2, h2⟩ := HW0.out; exact ⟨s2, L, h2⟩⟩⟩
   case round =>
    clear HW0
    obtain ⟨i, A2, c2, hi, rfl, rfl, HW⟩ := hrel
    obtain ⟨s2, L2, hw⟩ := HW.out
    clear HW
    by_cases hif : i < 30
    ·have HW := Aside0.mk hw
     clear hw
     go_wp2_with (at_builtin; refine grow_row HW.out rfl rfl (.tmp 33) (.tmp 39) 25 (.int .i64 0) 8 _ rfl Tryz.underlying25 i3 rfl (by decide) (by decide) rfl rfl ⟨_, rfl⟩ rfl (fun u hu => by rw [List.mem_singleton.1 hu]; rfl) (by omega) (by decide) ?_; intro s3 A3 c3 w5 HW3)
     go_roundw
     case rel => exact ⟨i + 1, A3, c3, by omega, by go_num, rfl, ⟨s3, HW3.out⟩⟩
     case measure => simp [intOf]; omega
    ·obtain rfl : i = 30 := by omega
     obtain ⟨w4, rfl⟩ : ∃ w4, w4 = wr := ⟨_, rfl⟩
     obtain ⟨ng, hng⟩ : ∃ ng, ng = n + 30 := ⟨_, rfl⟩
     rw [← hng] at hw ⊢
     clear hng
     have HL := Aside0.mk (hw.sh.vl hw.ty hw.vl).2
     have HW := Aside0.mk hw
     clear hw
     obtain ⟨A13, c13, e13⟩ := HW.out.sh.slice (j := 13) (by decide)
     have q13 := (HW.out.sh.cell (j := 13) (by decide)).trans (congrArg some e13)
     have l13 : ((X1 13).length + 1) * 24 ≤ 140737488355328 := by have := hML.out; omega
     go_wp2_with (at_builtin; refine push_row HW.out.sh 13 (by decide) (by decide) (by decide) rfl (.tmp 45) (.tmp 47) 26 (.slice none 0 0) 24 rfl Tryz.underlying26 i25 rfl (by decide) e13.symm rfl rfl l13 ?_; intro A1 c1 w5 V2 X2 HP zc zf)
     refine img.wp_world (p := fun wx => Aside0 (V2 = upd V1 13 (.slice A1 ((X1 13).length + 1) c1) ∧ X2 = upd X1 13 (X1 13 ++ [.slice A2 ng c2]) ∧ Sh m wx bk s2 V2 X2 ∧ Fr m w3 wx)) ⟨HP.out.1, HP.out.2.1, HP.out.2.2.1, HW.out.fr.then_ HP.out.2.2.2⟩ ?_
     clear HP zc zf q13 l13 e13
     rintro w6 HP
     obtain ⟨A14, c14, e14⟩ := HP.out.2.2.1.slice (j := 14) (by decide)
     have l14 : ((X2 14).length + 1) * 24 ≤ 140737488355328 := by rw [HP.out.2.1, upd_ne _ _ (by decide)]; have := hML.out; omega
     have q14 := (HP.out.2.2.1.cell (j := 14) (by decide)).trans (congrArg some e14)
     have q14a := ((HP.out.2.2.1.still (grown_alloc w6 (.cells #[] 3))).cell (j := 14) (by decide)).trans (congrArg some e14)
     have HC := Aside0.mk (((HP.out.2.2.1.still (grown_drew w6)).still (grown_alloc w6.drew (.cells #[] 3))).vl HW.out.ty HW.out.vl).2.2.2.2.1
     go_region_law (first
      | (refine copy_step (by rfl) (.tmp 56) (.tmp 57) 25 3 (.int .i64 0) 1 8 (by rfl) Tryz.underlying25 i3 rfl (by decide) w6.heap.size (by rfl) A2 ng c2 (by rfl) (World.ownsRow_made w6.drew #[] 0 (Nat.zero_le _) (by decide) rfl) L2 HL.out.1 HL.out.2.1 HL.out.2.2.1 HC.out HL.out.2.2.2.2.1 HL.out.2.2.2.2.2.1 (by have := HL.out.2.2.2.2.2.1; omega) ?_; intro kc cc w7 HC3; have HS3 := Aside0.mk (copied (q := 1) HP.out.2.2.1 rfl HC3.out); have q14c := (HS3.out.2.1.cell (j := 14) (by decide)).trans (congrArg some e14); have q14e := ((HS3.out.2.1.still (grown_alloc w7 (.cells #[.slice (some ⟨kc, 0, none⟩) ng cc] 25))).cell (j := 14) (by decide)).trans (congrArg some e14))
      | (refine push_step HS3.out.2.1 14 (by decide) (by decide) (by decide) (by rfl) (.tmp 55) (.tmp 59) 26 (.slice none 0 0) 24 (by rfl) Tryz.underlying26 i25 rfl (by decide) e14.symm (by rfl) rfl l14 ?_; intro A2' c2' w8 V3 X3 HQ zc zf))
     all_goals
      have HZ : Aside0 (∃ s3, Gq m w bk 1 R s V X (k + 1) s3 V3 X3 (w8.setCell ⟨bk, 14, none⟩ (.slice A2' ((X2 14).length + 1) c2'))) := ⟨⟨_, HM.out.next (by decide) HV.out HW.out HS3.out.1 HQ.out.2.2.1 (by
       have e := HQ.out.2.1
       rw [HP.out.2.1, upd_ne _ _ (by decide : (14 : Nat) ≠ 13)] at e
       exact e) (fun j h1 h2 => by rw [HQ.out.1, upd_ne _ _ h2, HP.out.1, upd_ne _ _ h1]) ((HP.out.2.2.2.then_ HS3.out.2.2).then_ HQ.out.2.2.2)⟩⟩
      clear HM HP HQ HW HL HV HS3 zc zf q14 q14a q14c q14e e14 l14 HC HC3
      go_wp2_with (fail)
      go_roundw
      case rel => exact ⟨k + 1, by omega, by go_num, ⟨by obtain ⟨s3, h3⟩ := HZ.out; exact ⟨s3, V3, X3, h3⟩⟩⟩
      case measure => simp [intOf]; omega
  ·have HF := Aside0.mk (hm.fin HA.out (by simp [live]) (by have := HH.out.2.2.1; show (X 17).length ≤ k; omega))
   have f17 := hm.sh.frozen 17
   have f20 := hm.sh.frozen 20
   clear hm
   go_wp2_with (fail)
   go_end0
   obtain ⟨⟨V2, X2, h2⟩, h3⟩ := HF.out
   exact ⟨rfl, h3, s1, V2, X2, h2⟩
set_option maxHeartbeats 8000000 in
set_option maxRecDepth 100000 in
theorem grow_words (h : All m w bk s V X R d) : Calls Tryz.prog 111 #[.pointer (some ⟨bk, 0, none⟩)] w (Done m w bk R d) := by
 have hK := h.ks 3 (by simp [live])
 obtain ⟨nf, hnf⟩ : ∃ nf, nf = (X 35).length := ⟨_, rfl⟩
 have hl20 : (X 38).length = nf := hK.m3.trans hnf.symm
 have hnn : nf ≤ 1099511627776 := by rw [hnf]; exact (h.lens (q := 3) (by simp [live])).2.2.2.2.1
 obtain ⟨A17, c17, h17⟩ := h.sh.slice (j := 35) (by decide)
 obtain ⟨A20, c20, h20⟩ := h.sh.slice (j := 38) (by decide)
 rw [← hnf] at h17
 rw [hl20] at h20
 have HA := Aside0.mk h
 have HH := Aside0.mk (And.intro h17 (And.intro h20 (And.intro hnf hl20)))
 have HM0 := Aside0.mk (Gq.start h (q := 3) (by simp [live]))
 clear h hK h17 h20 hnf hl20
 go_enter Tryz.func111, Tryz.ntmps111
 go_wp2_with (fail)
 go_loopw [2] (fun i wr => ∃ k : Nat, k ≤ nf ∧ i = .int .i64 k ∧ Aside0 (∃ s1 V1 X1, Gq m w bk 3 R s V X k s1 V1 X1 wr)) (fun i _ => nf - (intOf i).toNat)
 case atStart => exact ⟨0, Nat.zero_le _, rfl, ⟨s, V, X, HM0.out⟩⟩
 case round =>
  clear HM0
  obtain ⟨k, hk, rfl, HM⟩ := hrel
  obtain ⟨s1, V1, X1, hm⟩ := HM.out
  clear HM
  have k17 := (hm.sh.cell (j := 35) (by decide)).trans (congrArg some ((hm.rest 35 (by decide) (by decide) (by decide)).1.trans HH.out.1))
  have k20 := (hm.sh.cell (j := 38) (by decide)).trans (congrArg some ((hm.rest 38 (by decide) (by decide) (by decide)).1.trans HH.out.2.1))
  by_cases hlt : k < nf
  ·obtain ⟨v, hv⟩ : ∃ v, (X 35)[k]? = some v := ⟨_, List.getElem?_eq_getElem (by have := HH.out.2.2.1; omega)⟩
   obtain ⟨x, hx⟩ : ∃ x, (X 38)[k]? = some x := ⟨_, List.getElem?_eq_getElem (by have := HH.out.2.2.2; omega)⟩
   obtain ⟨a, rfl⟩ := (HA.out.ks 3 (by simp [live])).n3 x (List.mem_of_getElem? hx)
   obtain ⟨b17, y17, z17, r17⟩ := hm.sh.rcell (j := 35) (by decide) ((congrArg (·[k]?) (hm.rest 35 (by decide) (by decide) (by decide)).2).trans hv)
   obtain ⟨b20, y20, z20, r20⟩ := hm.sh.rcell (j := 38) (by decide) ((congrArg (·[k]?) (hm.rest 38 (by decide) (by decide) (by decide)).2).trans hx)
   rw [(hm.rest 35 (by decide) (by decide) (by decide)).1, HH.out.1] at z17
   rw [(hm.rest 38 (by decide) (by decide) (by decide)).1, HH.out.2.1] at z20
   obtain rfl : A17 = some ⟨b17, 0, none⟩ := by injection z17
   obtain rfl : A20 = some ⟨b20, 0, none⟩ := by injection z20
   clear z17 z20
   have hfe := hm.ki.fe v (by rw [drop_cons hv]; exact List.mem_cons_self ..)
   obtain ⟨A, n, c, L, hvl⟩ := hfe.vl
   obtain ⟨rfl, hL⟩ := hm.sh.vl hm.ty hvl
   have hn30 : n ≤ 1073741824 := hL.2.2.2.2.2.2 (by decide)
   have HW0 := Aside0.mk (Gw.start hm.sh hm.ty hvl)
   have HM := Aside0.mk hm
   have HV := Aside0.mk hv
   have hML : Aside0 ((X1 31).length ≤ 1099511627776 ∧ (X1 32).length ≤ 1099511627776) := ⟨hm.lens HA.out.rb⟩
   clear hm hv hx hfe hvl hL
   go_upto_region 5 with (fail)
   obtain ⟨w3, rfl⟩ : ∃ w3, w3 = wr := ⟨_, rfl⟩
   clear k17 k20 r17 r20
   go_wp2_with (fail)
   go_loopw [4, 5] (fun u4 u5 wr => ∃ (i : Nat) (A2 : Option Addr) (c2 : Nat), i ≤ 30 ∧ u5 = .int .i64 i ∧ u4 = .slice A2 (n + i) c2 ∧ Aside0 (∃ s2 L2, Gw m bk 3 s1 V1 X1 w3 (.slice A n c) s2 (.slice A2 (n + i) c2) A2 (n + i) c2 L2 wr)) (fun _ u5 _ => 30 - (intOf u5).toNat)
   case atStart => exact ⟨0, A, c, Nat.zero_le _, rfl, rfl, ⟨by obtain ⟨s2, h2⟩ := HW0.out; exact ⟨s2, L, h2⟩⟩⟩
   case round =>
    clear HW0
    obtain ⟨i, A2, c2, hi, rfl, rfl, HW⟩ := hrel
    obtain ⟨s2, L2, hw⟩ := HW.out
    clear HW
    by_cases hif : i < 30
    ·have HW := Aside0.mk hw
     clear hw
     go_wp2_with (at_builtin; refine grow_row HW.out rfl rfl (.tmp 33) (.tmp 40) 64 (.int .u64 0) 8 _ rfl Tryz.underlying64 i42 rfl (by decide) (by decide) rfl rfl ⟨_, rfl⟩ rfl (fun u hu => by rw [List.mem_singleton.1 hu]; rfl) (by omega) (by decide) ?_; intro s3 A3 c3 w5 HW3)
     go_roundw
     case rel => exact ⟨i + 1, A3, c3, by omega, by go_num, rfl, ⟨s3, HW3.out⟩⟩
     case measure => simp [intOf]; omega
    ·obtain rfl : i = 30 := by omega
     obtain ⟨w4, rfl⟩ : ∃ w4, w4 = wr := ⟨_, rfl⟩
     obtain ⟨ng, hng⟩ : ∃ ng, ng = n + 30 := ⟨_, rfl⟩
     rw [← hng] at hw ⊢
     clear hng
     have HL := Aside0.mk (hw.sh.vl hw.ty hw.vl).2
     have HW := Aside0.mk hw
     clear hw
     obtain ⟨A13, c13, e13⟩ := HW.out.sh.slice (j := 31) (by decide)
     have q13 := (HW.out.sh.cell (j := 31) (by decide)).trans (congrArg some e13)
     have l13 : ((X1 31).length + 1) * 24 ≤ 140737488355328 := by have := hML.out; omega
     go_wp2_with (at_builtin; refine push_row HW.out.sh 31 (by decide) (by decide) (by decide) rfl (.tmp 46) (.tmp 48) 28 (.slice none 0 0) 24 rfl Tryz.underlying28 i64 rfl (by decide) e13.symm rfl rfl l13 ?_; intro A1 c1 w5 V2 X2 HP zc zf)
     refine img.wp_world (p := fun wx => Aside0 (V2 = upd V1 31 (.slice A1 ((X1 31).length + 1) c1) ∧ X2 = upd X1 31 (X1 31 ++ [.slice A2 ng c2]) ∧ Sh m wx bk s2 V2 X2 ∧ Fr m w3 wx)) ⟨HP.out.1, HP.out.2.1, HP.out.2.2.1, HW.out.fr.then_ HP.out.2.2.2⟩ ?_
     clear HP zc zf q13 l13 e13
     rintro w6 HP
     obtain ⟨A14, c14, e14⟩ := HP.out.2.2.1.slice (j := 32) (by decide)
     have l14 : ((X2 32).length + 1) * 24 ≤ 140737488355328 := by rw [HP.out.2.1, upd_ne _ _ (by decide)]; have := hML.out; omega
     have q14 := (HP.out.2.2.1.cell (j := 32) (by decide)).trans (congrArg some e14)
     have q14a := ((HP.out.2.2.1.still (grown_alloc w6 (.cells #[] 42))).cell (j := 32) (by decide)).trans (congrArg some e14)
     have HC := Aside0.mk (((HP.out.2.2.1.still (grown_drew w6)).still (grown_alloc w6.drew (.cells #[] 42))).vl HW.out.ty HW.out.vl).2.2.2.2.1
     go_region_law (first
      | (refine copy_step (by rfl) (.tmp 57) (.tmp 58) 64 42 (.int .u64 0) 1 8 (by rfl) Tryz.underlying64 i42 rfl (by decide) w6.heap.size (by rfl) A2 ng c2 (by rfl) (World.ownsRow_made w6.drew #[] 0 (Nat.zero_le _) (by decide) rfl) L2 HL.out.1 HL.out.2.1 HL.out.2.2.1 HC.out HL.out.2.2.2.2.1 HL.out.2.2.2.2.2.1 (by have := HL.out.2.2.2.2.2.1; omega) ?_; intro kc cc w7 HC3; have HS3 := Aside0.mk (copied (q := 3) HP.out.2.2.1 rfl HC3.out); have q14c := (HS3.out.2.1.cell (j := 32) (by decide)).trans (congrArg some e14); have q14e := ((HS3.out.2.1.still (grown_alloc w7 (.cells #[.slice (some ⟨kc, 0, none⟩) ng cc] 64))).cell (j := 32) (by decide)).trans (congrArg some e14))
      | (refine push_step HS3.out.2.1 32 (by decide) (by decide) (by decide) (by rfl) (.tmp 56) (.tmp 60) 28 (.slice none 0 0) 24 (by rfl) Tryz.underlying28 i64 rfl (by decide) e14.symm (by rfl) rfl l14 ?_; intro A2' c2' w8 V3 X3 HQ zc zf))
     all_goals
      have HZ : Aside0 (∃ s3, Gq m w bk 3 R s V X (k + 1) s3 V3 X3 (w8.setCell ⟨bk, 32, none⟩ (.slice A2' ((X2 32).length + 1) c2'))) := ⟨⟨_, HM.out.next (by decide) HV.out HW.out HS3.out.1 HQ.out.2.2.1 (by
       have e := HQ.out.2.1
       rw [HP.out.2.1, upd_ne _ _ (by decide : (32 : Nat) ≠ 31)] at e
       exact e) (fun j h1 h2 => by rw [HQ.out.1, upd_ne _ _ h2, HP.out.1, upd_ne _ _ h1]) ((HP.out.2.2.2.then_ HS3.out.2.2).then_ HQ.out.2.2.2)⟩⟩
      clear HM HP HQ HW HL HV HS3 zc zf q14 q14a q14c q14e e14 l14 HC HC3
      go_wp2_with (fail)
      go_roundw
      case rel => exact ⟨k + 1, by omega, by go_num, ⟨by obtain ⟨s3, h3⟩ := HZ.out; exact ⟨s3, V3, X3, h3⟩⟩⟩
      case measure => simp [intOf]; omega
  ·have HF := Aside0.mk (hm.fin HA.out (by simp [live]) (by have := HH.out.2.2.1; show (X 35).length ≤ k; omega))
   have f17 := hm.sh.frozen 35
   have f20 := hm.sh.frozen 38
   clear hm
   go_wp2_with (fail)
   go_end0
   obtain ⟨⟨V2, X2, h2⟩, h3⟩ := HF.out
   exact ⟨rfl, h3, s1, V2, X2, h2⟩
end
end Go.Proofs.YtihjjkoddphmiaaGreatDoor.bk
