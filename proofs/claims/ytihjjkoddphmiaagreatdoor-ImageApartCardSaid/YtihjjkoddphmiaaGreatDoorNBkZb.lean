/-
  The walks of (*Book).grow..: what was written over is laid on.
-/
import Derived.Test.YtihjjkoddphmiaaGreatDoorNBkT
import Derived.Test.YtihjjkoddphmiaaGreatDoorNBkX
namespace Go.Proofs.YtihjjkoddphmiaaGreatDoor.bk
open Go.RowKit Go.Proofs.YtihjjkoddphmiaaGreatDoorW.PrintWords Go.Proofs.YtihjjkoddphmiaaGreatDoorW.PrintLast Go.Proofs.YtihjjkoddphmiaaGreatDoorW.PrintMore Go.Proofs.YtihjjkoddphmiaaGreatDoor.PImageApart
set_option linter.unusedVariables false
set_option linter.unusedSimpArgs false
section
variable {m : Nat → Prop} {w : World} {bk R : Nat} {s : Nat → Option Bl} {V : Nat → Value} {X : Nat → List Value} {d : Int}
set_option maxHeartbeats 8000000 in
set_option maxRecDepth 100000 in
theorem grow_intLists (h : All m w bk s V X R d) : Calls Tryz.prog 117 #[.pointer (some ⟨bk, 0, none⟩)] w (Done m w bk R d) := by
 have hK := h.ks 9 (by simp [live])
 obtain ⟨nf, hnf⟩ : ∃ nf, nf = (X 89).length := ⟨_, rfl⟩
 have hl20 : (X 92).length = nf := hK.m3.trans hnf.symm
 have hnn : nf ≤ 1099511627776 := by rw [hnf]; exact (h.lens (q := 9) (by simp [live])).2.2.2.2.1
 obtain ⟨A17, c17, h17⟩ := h.sh.slice (j := 89) (by decide)
 obtain ⟨A20, c20, h20⟩ := h.sh.slice (j := 92) (by decide)
 rw [← hnf] at h17
 rw [hl20] at h20
 have HA := Aside0.mk h
 have HH := Aside0.mk (And.intro h17 (And.intro h20 (And.intro hnf hl20)))
 have HM0 := Aside0.mk (Gq.start h (q := 9) (by simp [live]))
 clear h hK h17 h20 hnf hl20
 go_enter Tryz.func117, Tryz.ntmps117
 go_wp2_with (fail)
 go_loopw [2] (fun i wr => ∃ k : Nat, k ≤ nf ∧ i = .int .i64 k ∧ Aside0 (∃ s1 V1 X1, Gq m w bk 9 R s V X k s1 V1 X1 wr)) (fun i _ => nf - (intOf i).toNat)
 case atStart => exact ⟨0, Nat.zero_le _, rfl, ⟨s, V, X, HM0.out⟩⟩
 case round =>
  clear HM0
  obtain ⟨k, hk, rfl, HM⟩ := hrel
  obtain ⟨s1, V1, X1, hm⟩ := HM.out
  clear HM
  have k17 := (hm.sh.cell (j := 89) (by decide)).trans (congrArg some ((hm.rest 89 (by decide) (by decide) (by decide)).1.trans HH.out.1))
  have k20 := (hm.sh.cell (j := 92) (by decide)).trans (congrArg some ((hm.rest 92 (by decide) (by decide) (by decide)).1.trans HH.out.2.1))
  by_cases hlt : k < nf
  ·obtain ⟨v, hv⟩ : ∃ v, (X 89)[k]? = some v := ⟨_, List.getElem?_eq_getElem (by have := HH.out.2.2.1; omega)⟩
   obtain ⟨x, hx⟩ : ∃ x, (X 92)[k]? = some x := ⟨_, List.getElem?_eq_getElem (by have := HH.out.2.2.2; omega)⟩
   obtain ⟨a, rfl⟩ := (HA.out.ks 9 (by simp [live])).n3 x (List.mem_of_getElem? hx)
   obtain ⟨b17, y17, z17, r17⟩ := hm.sh.rcell (j := 89) (by decide) ((congrArg (·[k]?) (hm.rest 89 (by decide) (by decide) (by decide)).2).trans hv)
   obtain ⟨b20, y20, z20, r20⟩ := hm.sh.rcell (j := 92) (by decide) ((congrArg (·[k]?) (hm.rest 92 (by decide) (by decide) (by decide)).2).trans hx)
   rw [(hm.rest 89 (by decide) (by decide) (by decide)).1, HH.out.1] at z17
   rw [(hm.rest 92 (by decide) (by decide) (by decide)).1, HH.out.2.1] at z20
   obtain rfl : A17 = some ⟨b17, 0, none⟩ := by injection z17
   obtain rfl : A20 = some ⟨b20, 0, none⟩ := by injection z20
   clear z17 z20
   have hfe := hm.ki.fe v (by rw [drop_cons hv]; exact List.mem_cons_self ..)
   obtain ⟨A, n, c, L, hvl⟩ := hfe.vl
   obtain ⟨rfl, hL⟩ := hm.sh.vl hm.ty hvl
   have hn30 : n ≤ 1073741824 := hL.2.2.2.2.2.2 (by decide)
   have HW0 := Aside0.mk (Gw.start hm.sh hm.ty hvl)
   have HM := Aside0.mk hm
   have HV := Aside0.mk hv
   have hML : Aside0 ((X1 85).length ≤ 1099511627776 ∧ (X1 86).length ≤ 1099511627776) := ⟨hm.lens HA.out.rb⟩
   clear hm hv hx hfe hvl hL
   go_upto_region 5 with (fail)
   obtain ⟨w3, rfl⟩ : ∃ w3, w3 = wr := ⟨_, rfl⟩
   clear k17 k20 r17 r20
   go_wp2_with (fail)
   go_loopw [4, 5] (fun u4 u5 wr => ∃ (i : Nat) (A2 : Option Addr) (c2 : Nat), i ≤ 30 ∧ u5 = .int .i64 i ∧ u4 = .slice A2 (n + i) c2 ∧ Aside0 (∃ s2 L2, Gw m bk 9 s1 V1 X1 w3 (.slice A n c) s2 (.slice A2 (n + i) c2) A2 (n + i) c2 L2 wr)) (fun _ u5 _ => 30 - (intOf u5).toNat)
   case atStart => exact ⟨0, A, c, Nat.zero_le _, rfl, rfl, ⟨by obtain ⟨s2, h2⟩ := HW0.out; exact ⟨s2, L, h2⟩⟩⟩
   case round =>
    clear HW0
    obtain ⟨i, A2, c2, hi, rfl, rfl, HW⟩ := hrel
    obtain ⟨s2, L2, hw⟩ := HW.out
    clear HW
    by_cases hif : i < 30
    ·have HW := Aside0.mk hw
     clear hw
     have HW1 := Aside0.mk (fun (y : Int) => HW.out.new (w1 := wr.alloc (.cells #[.int .i64 y] 3)) (k := wr.heap.size) (g := ⟨1, 3, 1, 1, [.int .i64 y]⟩) (Nat.le_refl _) (grown_alloc _ _) ⟨rfl, .inr ⟨_, 1, _, rfl, Nat.zero_le _, heap_alloc_new wr _, Nat.le_refl _, by decide, rfl, rfl⟩⟩ (one_int _ _))
     go_wp2_with (at_builtin; refine grow_row (HW1.out _) rfl rfl (.tmp 33) (.tmp 40) 26 (.slice none 0 0) 24 _ rfl Tryz.underlying26 i25 rfl (by decide) (by decide) rfl (by rw [World.size_alloc]; rfl) ⟨_, rfl, rds_new _ _ rfl (Nat.le_refl 1)⟩ rfl (fun u hu => by rw [List.mem_singleton.1 hu]; rfl) (by omega) (by decide) ?_; intro s3 A3 c3 w5 HW3)
     go_roundw
     case rel => exact ⟨i + 1, A3, c3, by omega, by go_num, rfl, ⟨s3, HW3.out⟩⟩
     case measure => simp [intOf]; omega
    ·obtain rfl : i = 30 := by omega
     obtain ⟨w4, rfl⟩ : ∃ w4, w4 = wr := ⟨_, rfl⟩
     obtain ⟨ng, hng⟩ : ∃ ng, ng = n + 30 := ⟨_, rfl⟩
     rw [← hng] at hw ⊢
     clear hng
     have HL := Aside0.mk (hw.sh.vl hw.ty hw.vl).2
     have HW := Aside0.mk hw
     clear hw
     obtain ⟨A13, c13, e13⟩ := HW.out.sh.slice (j := 85) (by decide)
     have q13 := (HW.out.sh.cell (j := 85) (by decide)).trans (congrArg some e13)
     have l13 : ((X1 85).length + 1) * 24 ≤ 140737488355328 := by have := hML.out; omega
     go_wp2_with (at_builtin; refine push_row HW.out.sh 85 (by decide) (by decide) (by decide) rfl (.tmp 46) (.tmp 48) 34 (.slice none 0 0) 24 rfl Tryz.underlying34 i26 rfl (by decide) e13.symm rfl rfl l13 ?_; intro A1 c1 w5 V2 X2 HP zc zf)
     refine img.wp_world (p := fun wx => Aside0 (V2 = upd V1 85 (.slice A1 ((X1 85).length + 1) c1) ∧ X2 = upd X1 85 (X1 85 ++ [.slice A2 ng c2]) ∧ Sh m wx bk s2 V2 X2 ∧ Fr m w3 wx)) ⟨HP.out.1, HP.out.2.1, HP.out.2.2.1, HW.out.fr.then_ HP.out.2.2.2⟩ ?_
     clear HP zc zf q13 l13 e13
     rintro w6 HP
     obtain ⟨A14, c14, e14⟩ := HP.out.2.2.1.slice (j := 86) (by decide)
     have l14 : ((X2 86).length + 1) * 24 ≤ 140737488355328 := by rw [HP.out.2.1, upd_ne _ _ (by decide)]; have := hML.out; omega
     have q14 := (HP.out.2.2.1.cell (j := 86) (by decide)).trans (congrArg some e14)
     have q14a := ((HP.out.2.2.1.still (grown_alloc w6 (.cells #[] 25))).cell (j := 86) (by decide)).trans (congrArg some e14)
     have HC := Aside0.mk (((HP.out.2.2.1.still (grown_drew w6)).still (grown_alloc w6.drew (.cells #[] 25))).vl HW.out.ty HW.out.vl).2.2.2.2.1
     go_region_law (first
      | (refine copy_step (by rfl) (.tmp 57) (.tmp 58) 26 25 (.slice none 0 0) 1 24 (by rfl) Tryz.underlying26 i25 rfl (by decide) w6.heap.size (by rfl) A2 ng c2 (by rfl) (World.ownsRow_made w6.drew #[] 0 (Nat.zero_le _) (by decide) rfl) L2 HL.out.1 HL.out.2.1 HL.out.2.2.1 HC.out HL.out.2.2.2.2.1 HL.out.2.2.2.2.2.1 (by have := HL.out.2.2.2.2.2.1; omega) ?_; intro kc cc w7 HC3; have HS3 := Aside0.mk (copied (q := 9) HP.out.2.2.1 rfl HC3.out); have q14c := (HS3.out.2.1.cell (j := 86) (by decide)).trans (congrArg some e14); have q14e := ((HS3.out.2.1.still (grown_alloc w7 (.cells #[.slice (some ⟨kc, 0, none⟩) ng cc] 26))).cell (j := 86) (by decide)).trans (congrArg some e14))
      | (refine push_step HS3.out.2.1 86 (by decide) (by decide) (by decide) (by rfl) (.tmp 56) (.tmp 60) 34 (.slice none 0 0) 24 (by rfl) Tryz.underlying34 i26 rfl (by decide) e14.symm (by rfl) rfl l14 ?_; intro A2' c2' w8 V3 X3 HQ zc zf))
     all_goals
      have HZ : Aside0 (∃ s3, Gq m w bk 9 R s V X (k + 1) s3 V3 X3 (w8.setCell ⟨bk, 86, none⟩ (.slice A2' ((X2 86).length + 1) c2'))) := ⟨⟨_, HM.out.next (by decide) HV.out HW.out HS3.out.1 HQ.out.2.2.1 (by
       have e := HQ.out.2.1
       rw [HP.out.2.1, upd_ne _ _ (by decide : (86 : Nat) ≠ 85)] at e
       exact e) (fun j h1 h2 => by rw [HQ.out.1, upd_ne _ _ h2, HP.out.1, upd_ne _ _ h1]) ((HP.out.2.2.2.then_ HS3.out.2.2).then_ HQ.out.2.2.2)⟩⟩
      clear HM HP HQ HW HL HV HS3 zc zf q14 q14a q14c q14e e14 l14 HC HC3
      go_wp2_with (fail)
      go_roundw
      case rel => exact ⟨k + 1, by omega, by go_num, ⟨by obtain ⟨s3, h3⟩ := HZ.out; exact ⟨s3, V3, X3, h3⟩⟩⟩
      case measure => simp [intOf]; omega
  ·have HF := Aside0.mk (hm.fin HA.out (by simp [live]) (by have := HH.out.2.2.1; show (X 89).length ≤ k; omega))
   have f17 := hm.sh.frozen 89
   have f20 := hm.sh.frozen 92
   clear hm
   go_wp2_with (fail)
   go_end0
   obtain ⟨⟨V2, X2, h2⟩, h3⟩ := HF.out
   exact ⟨rfl, h3, s1, V2, X2, h2⟩
set_option maxHeartbeats 8000000 in
set_option maxRecDepth 100000 in
theorem grow_frames (h : All m w bk s V X R d) : Calls Tryz.prog 119 #[.pointer (some ⟨bk, 0, none⟩)] w (Done m w bk R d) := by
 have hK := h.ks 11 (by simp [live])
 obtain ⟨nf, hnf⟩ : ∃ nf, nf = (X 107).length := ⟨_, rfl⟩
 have hl20 : (X 110).length = nf := hK.m3.trans hnf.symm
 have hnn : nf ≤ 1099511627776 := by rw [hnf]; exact (h.lens (q := 11) (by simp [live])).2.2.2.2.1
 obtain ⟨A17, c17, h17⟩ := h.sh.slice (j := 107) (by decide)
 obtain ⟨A20, c20, h20⟩ := h.sh.slice (j := 110) (by decide)
 rw [← hnf] at h17
 rw [hl20] at h20
 have HA := Aside0.mk h
 have HH := Aside0.mk (And.intro h17 (And.intro h20 (And.intro hnf hl20)))
 have HM0 := Aside0.mk (Gq.start h (q := 11) (by simp [live]))
 clear h hK h17 h20 hnf hl20
 go_enter Tryz.func119, Tryz.ntmps119
 go_wp2_with (fail)
 go_loopw [2] (fun i wr => ∃ k : Nat, k ≤ nf ∧ i = .int .i64 k ∧ Aside0 (∃ s1 V1 X1, Gq m w bk 11 R s V X k s1 V1 X1 wr)) (fun i _ => nf - (intOf i).toNat)
 case atStart => exact ⟨0, Nat.zero_le _, rfl, ⟨s, V, X, HM0.out⟩⟩
 case round =>
  clear HM0
  obtain ⟨k, hk, rfl, HM⟩ := hrel
  obtain ⟨s1, V1, X1, hm⟩ := HM.out
  clear HM
  have k17 := (hm.sh.cell (j := 107) (by decide)).trans (congrArg some ((hm.rest 107 (by decide) (by decide) (by decide)).1.trans HH.out.1))
  have k20 := (hm.sh.cell (j := 110) (by decide)).trans (congrArg some ((hm.rest 110 (by decide) (by decide) (by decide)).1.trans HH.out.2.1))
  by_cases hlt : k < nf
  ·obtain ⟨v, hv⟩ : ∃ v, (X 107)[k]? = some v := ⟨_, List.getElem?_eq_getElem (by have := HH.out.2.2.1; omega)⟩
   obtain ⟨x, hx⟩ : ∃ x, (X 110)[k]? = some x := ⟨_, List.getElem?_eq_getElem (by have := HH.out.2.2.2; omega)⟩
   obtain ⟨a, rfl⟩ := (HA.out.ks 11 (by simp [live])).n3 x (List.mem_of_getElem? hx)
   obtain ⟨b17, y17, z17, r17⟩ := hm.sh.rcell (j := 107) (by decide) ((congrArg (·[k]?) (hm.rest 107 (by decide) (by decide) (by decide)).2).trans hv)
   obtain ⟨b20, y20, z20, r20⟩ := hm.sh.rcell (j := 110) (by decide) ((congrArg (·[k]?) (hm.rest 110 (by decide) (by decide) (by decide)).2).trans hx)
   rw [(hm.rest 107 (by decide) (by decide) (by decide)).1, HH.out.1] at z17
   rw [(hm.rest 110 (by decide) (by decide) (by decide)).1, HH.out.2.1] at z20
   obtain rfl : A17 = some ⟨b17, 0, none⟩ := by injection z17
   obtain rfl : A20 = some ⟨b20, 0, none⟩ := by injection z20
   clear z17 z20
   have hfe := hm.ki.fe v (by rw [drop_cons hv]; exact List.mem_cons_self ..)
   obtain ⟨A, n, c, L, hvl⟩ := hfe.vl
   obtain ⟨rfl, hL⟩ := hm.sh.vl hm.ty hvl
   have hn30 : n ≤ 1073741824 := hL.2.2.2.2.2.2 (by decide)
   have HW0 := Aside0.mk (Gw.start hm.sh hm.ty hvl)
   have HM := Aside0.mk hm
   have HV := Aside0.mk hv
   have hML : Aside0 ((X1 103).length ≤ 1099511627776 ∧ (X1 104).length ≤ 1099511627776) := ⟨hm.lens HA.out.rb⟩
   clear hm hv hx hfe hvl hL
   go_upto_region 5 with (fail)
   obtain ⟨w3, rfl⟩ : ∃ w3, w3 = wr := ⟨_, rfl⟩
   clear k17 k20 r17 r20
   go_wp2_with (fail)
   go_loopw [4, 5] (fun u4 u5 wr => ∃ (i : Nat) (A2 : Option Addr) (c2 : Nat), i ≤ 30 ∧ u5 = .int .i64 i ∧ u4 = .slice A2 (n + i) c2 ∧ Aside0 (∃ s2 L2, Gw m bk 11 s1 V1 X1 w3 (.slice A n c) s2 (.slice A2 (n + i) c2) A2 (n + i) c2 L2 wr)) (fun _ u5 _ => 30 - (intOf u5).toNat)
   case atStart => exact ⟨0, A, c, Nat.zero_le _, rfl, rfl, ⟨by obtain ⟨s2, h2⟩ := HW0.out; exact ⟨s2, L, h2⟩⟩⟩
   case round =>
    clear HW0
    obtain ⟨i, A2, c2, hi, rfl, rfl, HW⟩ := hrel
    obtain ⟨s2, L2, hw⟩ := HW.out
    clear HW
    by_cases hif : i < 30
    ·have HW := Aside0.mk hw
     clear hw
     have HW1 := Aside0.mk (fun (y : Int) => (HW.out.new (w1 := wr.alloc (.cells #[.int .i64 y] 3)) (k := wr.heap.size) (g := ⟨1, 3, 1, 1, [.int .i64 y]⟩) (Nat.le_refl _) (grown_alloc _ _) ⟨rfl, .inr ⟨_, 1, _, rfl, Nat.zero_le _, heap_alloc_new wr _, Nat.le_refl _, by decide, rfl, rfl⟩⟩ (one_int _ _)).new (w1 := (wr.alloc (.cells #[.int .i64 y] 3)).alloc (.cells #[.slice (some ⟨wr.heap.size, 0, none⟩) 1 1] 25)) (k := (wr.alloc (.cells #[.int .i64 y] 3)).heap.size) (g := ⟨9, 3, 1, 1, [.slice (some ⟨wr.heap.size, 0, none⟩) 1 1]⟩) (Nat.le_refl _) (grown_alloc _ _) ⟨rfl, .inr ⟨_, 1, _, rfl, Nat.zero_le _, heap_alloc_new _ _, Nat.le_refl _, by decide, rfl, rfl⟩⟩ (one_list _ (rds_new _ _ rfl (Nat.le_refl 1))))
     go_wp2_with (at_builtin; refine grow_row (HW1.out _) rfl rfl (.tmp 33) (.tmp 41) 34 (.slice none 0 0) 24 _ rfl Tryz.underlying34 i26 rfl (by decide) (by decide) rfl (by rw [World.size_alloc, World.size_alloc]; rfl) ⟨_, rfl, by rw [World.size_alloc]; exact rds_new _ _ rfl (Nat.le_refl 1)⟩ rfl (fun u hu => by rw [List.mem_singleton.1 hu]; rfl) (by omega) (by decide) ?_; intro s3 A3 c3 w5 HW3)
     go_roundw
     case rel => exact ⟨i + 1, A3, c3, by omega, by go_num, rfl, ⟨s3, HW3.out⟩⟩
     case measure => simp [intOf]; omega
    ·obtain rfl : i = 30 := by omega
     obtain ⟨w4, rfl⟩ : ∃ w4, w4 = wr := ⟨_, rfl⟩
     obtain ⟨ng, hng⟩ : ∃ ng, ng = n + 30 := ⟨_, rfl⟩
     rw [← hng] at hw ⊢
     clear hng
     have HL := Aside0.mk (hw.sh.vl hw.ty hw.vl).2
     have HW := Aside0.mk hw
     clear hw
     obtain ⟨A13, c13, e13⟩ := HW.out.sh.slice (j := 103) (by decide)
     have q13 := (HW.out.sh.cell (j := 103) (by decide)).trans (congrArg some e13)
     have l13 : ((X1 103).length + 1) * 24 ≤ 140737488355328 := by have := hML.out; omega
     go_wp2_with (at_builtin; refine push_row HW.out.sh 103 (by decide) (by decide) (by decide) rfl (.tmp 47) (.tmp 49) 36 (.slice none 0 0) 24 rfl Tryz.underlying36 i34 rfl (by decide) e13.symm rfl rfl l13 ?_; intro A1 c1 w5 V2 X2 HP zc zf)
     refine img.wp_world (p := fun wx => Aside0 (V2 = upd V1 103 (.slice A1 ((X1 103).length + 1) c1) ∧ X2 = upd X1 103 (X1 103 ++ [.slice A2 ng c2]) ∧ Sh m wx bk s2 V2 X2 ∧ Fr m w3 wx)) ⟨HP.out.1, HP.out.2.1, HP.out.2.2.1, HW.out.fr.then_ HP.out.2.2.2⟩ ?_
     clear HP zc zf q13 l13 e13
     rintro w6 HP
     obtain ⟨A14, c14, e14⟩ := HP.out.2.2.1.slice (j := 104) (by decide)
     have l14 : ((X2 104).length + 1) * 24 ≤ 140737488355328 := by rw [HP.out.2.1, upd_ne _ _ (by decide)]; have := hML.out; omega
     have q14 := (HP.out.2.2.1.cell (j := 104) (by decide)).trans (congrArg some e14)
     have q14a := ((HP.out.2.2.1.still (grown_alloc w6 (.cells #[] 26))).cell (j := 104) (by decide)).trans (congrArg some e14)
     have HC := Aside0.mk (((HP.out.2.2.1.still (grown_drew w6)).still (grown_alloc w6.drew (.cells #[] 26))).vl HW.out.ty HW.out.vl).2.2.2.2.1
     go_region_law (first
      | (refine copy_step (by rfl) (.tmp 58) (.tmp 59) 34 26 (.slice none 0 0) 1 24 (by rfl) Tryz.underlying34 i26 rfl (by decide) w6.heap.size (by rfl) A2 ng c2 (by rfl) (World.ownsRow_made w6.drew #[] 0 (Nat.zero_le _) (by decide) rfl) L2 HL.out.1 HL.out.2.1 HL.out.2.2.1 HC.out HL.out.2.2.2.2.1 HL.out.2.2.2.2.2.1 (by have := HL.out.2.2.2.2.2.1; omega) ?_; intro kc cc w7 HC3; have HS3 := Aside0.mk (copied (q := 11) HP.out.2.2.1 rfl HC3.out); have q14c := (HS3.out.2.1.cell (j := 104) (by decide)).trans (congrArg some e14); have q14e := ((HS3.out.2.1.still (grown_alloc w7 (.cells #[.slice (some ⟨kc, 0, none⟩) ng cc] 34))).cell (j := 104) (by decide)).trans (congrArg some e14))
      | (refine push_step HS3.out.2.1 104 (by decide) (by decide) (by decide) (by rfl) (.tmp 57) (.tmp 61) 36 (.slice none 0 0) 24 (by rfl) Tryz.underlying36 i34 rfl (by decide) e14.symm (by rfl) rfl l14 ?_; intro A2' c2' w8 V3 X3 HQ zc zf))
     all_goals
      have HZ : Aside0 (∃ s3, Gq m w bk 11 R s V X (k + 1) s3 V3 X3 (w8.setCell ⟨bk, 104, none⟩ (.slice A2' ((X2 104).length + 1) c2'))) := ⟨⟨_, HM.out.next (by decide) HV.out HW.out HS3.out.1 HQ.out.2.2.1 (by
       have e := HQ.out.2.1
       rw [HP.out.2.1, upd_ne _ _ (by decide : (104 : Nat) ≠ 103)] at e
       exact e) (fun j h1 h2 => by rw [HQ.out.1, upd_ne _ _ h2, HP.out.1, upd_ne _ _ h1]) ((HP.out.2.2.2.then_ HS3.out.2.2).then_ HQ.out.2.2.2)⟩⟩
      clear HM HP HQ HW HL HV HS3 zc zf q14 q14a q14c q14e e14 l14 HC HC3
      go_wp2_with (fail)
      go_roundw
      case rel => exact ⟨k + 1, by omega, by go_num, ⟨by obtain ⟨s3, h3⟩ := HZ.out; exact ⟨s3, V3, X3, h3⟩⟩⟩
      case measure => simp [intOf]; omega
  ·have HF := Aside0.mk (hm.fin HA.out (by simp [live]) (by have := HH.out.2.2.1; show (X 107).length ≤ k; omega))
   have f17 := hm.sh.frozen 107
   have f20 := hm.sh.frozen 110
   clear hm
   go_wp2_with (fail)
   go_end0
   obtain ⟨⟨V2, X2, h2⟩, h3⟩ := HF.out
   exact ⟨rfl, h3, s1, V2, X2, h2⟩
set_option maxHeartbeats 8000000 in
set_option maxRecDepth 100000 in
theorem grow_objects (h : All m w bk s V X R d) : Calls Tryz.prog 120 #[.pointer (some ⟨bk, 0, none⟩)] w (Done m w bk R d) := by
 have hK := h.ks 12 (by simp [live])
 obtain ⟨nf, hnf⟩ : ∃ nf, nf = (X 116).length := ⟨_, rfl⟩
 have hl20 : (X 119).length = nf := hK.m3.trans hnf.symm
 have hnn : nf ≤ 1099511627776 := by rw [hnf]; exact (h.lens (q := 12) (by simp [live])).2.2.2.2.1
 obtain ⟨A17, c17, h17⟩ := h.sh.slice (j := 116) (by decide)
 obtain ⟨A20, c20, h20⟩ := h.sh.slice (j := 119) (by decide)
 rw [← hnf] at h17
 rw [hl20] at h20
 have HA := Aside0.mk h
 have HH := Aside0.mk (And.intro h17 (And.intro h20 (And.intro hnf hl20)))
 have HM0 := Aside0.mk (Gq.start h (q := 12) (by simp [live]))
 clear h hK h17 h20 hnf hl20
 go_enter Tryz.func120, Tryz.ntmps120
 go_wp2_with (fail)
 go_loopw [2] (fun i wr => ∃ k : Nat, k ≤ nf ∧ i = .int .i64 k ∧ Aside0 (∃ s1 V1 X1, Gq m w bk 12 R s V X k s1 V1 X1 wr)) (fun i _ => nf - (intOf i).toNat)
 case atStart => exact ⟨0, Nat.zero_le _, rfl, ⟨s, V, X, HM0.out⟩⟩
 case round =>
  clear HM0
  obtain ⟨k, hk, rfl, HM⟩ := hrel
  obtain ⟨s1, V1, X1, hm⟩ := HM.out
  clear HM
  have k17 := (hm.sh.cell (j := 116) (by decide)).trans (congrArg some ((hm.rest 116 (by decide) (by decide) (by decide)).1.trans HH.out.1))
  have k20 := (hm.sh.cell (j := 119) (by decide)).trans (congrArg some ((hm.rest 119 (by decide) (by decide) (by decide)).1.trans HH.out.2.1))
  by_cases hlt : k < nf
  ·obtain ⟨v, hv⟩ : ∃ v, (X 116)[k]? = some v := ⟨_, List.getElem?_eq_getElem (by have := HH.out.2.2.1; omega)⟩
   obtain ⟨x, hx⟩ : ∃ x, (X 119)[k]? = some x := ⟨_, List.getElem?_eq_getElem (by have := HH.out.2.2.2; omega)⟩
   obtain ⟨a, rfl⟩ := (HA.out.ks 12 (by simp [live])).n3 x (List.mem_of_getElem? hx)
   obtain ⟨b17, y17, z17, r17⟩ := hm.sh.rcell (j := 116) (by decide) ((congrArg (·[k]?) (hm.rest 116 (by decide) (by decide) (by decide)).2).trans hv)
   obtain ⟨b20, y20, z20, r20⟩ := hm.sh.rcell (j := 119) (by decide) ((congrArg (·[k]?) (hm.rest 119 (by decide) (by decide) (by decide)).2).trans hx)
   rw [(hm.rest 116 (by decide) (by decide) (by decide)).1, HH.out.1] at z17
   rw [(hm.rest 119 (by decide) (by decide) (by decide)).1, HH.out.2.1] at z20
   obtain rfl : A17 = some ⟨b17, 0, none⟩ := by injection z17
   obtain rfl : A20 = some ⟨b20, 0, none⟩ := by injection z20
   clear z17 z20
   have hfe := hm.ki.fe v (by rw [drop_cons hv]; exact List.mem_cons_self ..)
   obtain ⟨A, n, c, L, hvl⟩ := hfe.vl
   obtain ⟨rfl, hL⟩ := hm.sh.vl hm.ty hvl
   have hn30 : n ≤ 1073741824 := hL.2.2.2.2.2.2 (by decide)
   have HW0 := Aside0.mk (Gw.start hm.sh hm.ty hvl)
   have HM := Aside0.mk hm
   have HV := Aside0.mk hv
   have hML : Aside0 ((X1 112).length ≤ 1099511627776 ∧ (X1 113).length ≤ 1099511627776) := ⟨hm.lens HA.out.rb⟩
   clear hm hv hx hfe hvl hL
   go_upto_region 5 with (fail)
   obtain ⟨w3, rfl⟩ : ∃ w3, w3 = wr := ⟨_, rfl⟩
   clear k17 k20 r17 r20
   go_wp2_with (fail)
   go_loopw [4, 5] (fun u4 u5 wr => ∃ (i : Nat) (A2 : Option Addr) (c2 : Nat), i ≤ 30 ∧ u5 = .int .i64 i ∧ u4 = .slice A2 (n + i) c2 ∧ Aside0 (∃ s2 L2, Gw m bk 12 s1 V1 X1 w3 (.slice A n c) s2 (.slice A2 (n + i) c2) A2 (n + i) c2 L2 wr)) (fun _ u5 _ => 30 - (intOf u5).toNat)
   case atStart => exact ⟨0, A, c, Nat.zero_le _, rfl, rfl, ⟨by obtain ⟨s2, h2⟩ := HW0.out; exact ⟨s2, L, h2⟩⟩⟩
   case round =>
    clear HW0
    obtain ⟨i, A2, c2, hi, rfl, rfl, HW⟩ := hrel
    obtain ⟨s2, L2, hw⟩ := HW.out
    clear HW
    by_cases hif : i < 30
    ·have HW := Aside0.mk hw
     clear hw
     go_wp2_with (at_builtin; refine grow_row HW.out rfl rfl (.tmp 33) (.tmp 40) 41 (.agg #[.int .u64 0, .int .i64 0, .int .i64 0, .slice none 0 0, .slice none 0 0]) 72 _ rfl Tryz.underlying41 i66 rfl (by decide) (by decide) rfl rfl ⟨_, _, _, _, _, rfl, ⟨none, 0, 0, rfl, by omega, fun h => by omega⟩, ⟨none, 0, 0, rfl, by omega, fun h => by omega⟩⟩ rfl (fun u hu => by simp only [List.mem_cons, List.not_mem_nil, or_false] at hu; rcases hu with rfl | rfl | rfl | rfl | rfl <;> rfl) (by omega) (by decide) ?_; intro s3 A3 c3 w5 HW3)
     go_roundw
     case rel => exact ⟨i + 1, A3, c3, by omega, by go_num, rfl, ⟨s3, HW3.out⟩⟩
     case measure => simp [intOf]; omega
    ·obtain rfl : i = 30 := by omega
     obtain ⟨w4, rfl⟩ : ∃ w4, w4 = wr := ⟨_, rfl⟩
     obtain ⟨ng, hng⟩ : ∃ ng, ng = n + 30 := ⟨_, rfl⟩
     rw [← hng] at hw ⊢
     clear hng
     have HL := Aside0.mk (hw.sh.vl hw.ty hw.vl).2
     have HW := Aside0.mk hw
     clear hw
     obtain ⟨A13, c13, e13⟩ := HW.out.sh.slice (j := 112) (by decide)
     have q13 := (HW.out.sh.cell (j := 112) (by decide)).trans (congrArg some e13)
     have l13 : ((X1 112).length + 1) * 24 ≤ 140737488355328 := by have := hML.out; omega
     go_wp2_with (at_builtin; refine push_row HW.out.sh 112 (by decide) (by decide) (by decide) rfl (.tmp 46) (.tmp 48) 37 (.slice none 0 0) 24 rfl Tryz.underlying37 i41 rfl (by decide) e13.symm rfl rfl l13 ?_; intro A1 c1 w5 V2 X2 HP zc zf)
     refine img.wp_world (p := fun wx => Aside0 (V2 = upd V1 112 (.slice A1 ((X1 112).length + 1) c1) ∧ X2 = upd X1 112 (X1 112 ++ [.slice A2 ng c2]) ∧ Sh m wx bk s2 V2 X2 ∧ Fr m w3 wx)) ⟨HP.out.1, HP.out.2.1, HP.out.2.2.1, HW.out.fr.then_ HP.out.2.2.2⟩ ?_
     clear HP zc zf q13 l13 e13
     rintro w6 HP
     obtain ⟨A14, c14, e14⟩ := HP.out.2.2.1.slice (j := 113) (by decide)
     have l14 : ((X2 113).length + 1) * 24 ≤ 140737488355328 := by rw [HP.out.2.1, upd_ne _ _ (by decide)]; have := hML.out; omega
     have q14 := (HP.out.2.2.1.cell (j := 113) (by decide)).trans (congrArg some e14)
     have q14a := ((HP.out.2.2.1.still (grown_alloc w6 (.cells #[] 66))).cell (j := 113) (by decide)).trans (congrArg some e14)
     have HC := Aside0.mk (((HP.out.2.2.1.still (grown_drew w6)).still (grown_alloc w6.drew (.cells #[] 66))).vl HW.out.ty HW.out.vl).2.2.2.2.1
     go_region_law (first
      | (refine copy_step (by rfl) (.tmp 57) (.tmp 58) 41 66 (.agg #[.int .u64 0, .int .i64 0, .int .i64 0, .slice none 0 0, .slice none 0 0]) 5 72 (by rfl) Tryz.underlying41 i66 rfl (by decide) w6.heap.size (by rfl) A2 ng c2 (by rfl) (World.ownsRow_made w6.drew #[] 0 (Nat.zero_le _) (by decide) rfl) L2 HL.out.1 HL.out.2.1 HL.out.2.2.1 HC.out HL.out.2.2.2.2.1 HL.out.2.2.2.2.2.1 (by have := HL.out.2.2.2.2.2.1; omega) ?_; intro kc cc w7 HC3; have HS3 := Aside0.mk (copied (q := 12) HP.out.2.2.1 rfl HC3.out); have q14c := (HS3.out.2.1.cell (j := 113) (by decide)).trans (congrArg some e14); have q14e := ((HS3.out.2.1.still (grown_alloc w7 (.cells #[.slice (some ⟨kc, 0, none⟩) ng cc] 41))).cell (j := 113) (by decide)).trans (congrArg some e14))
      | (refine push_step HS3.out.2.1 113 (by decide) (by decide) (by decide) (by rfl) (.tmp 56) (.tmp 60) 37 (.slice none 0 0) 24 (by rfl) Tryz.underlying37 i41 rfl (by decide) e14.symm (by rfl) rfl l14 ?_; intro A2' c2' w8 V3 X3 HQ zc zf))
     all_goals
      have HZ : Aside0 (∃ s3, Gq m w bk 12 R s V X (k + 1) s3 V3 X3 (w8.setCell ⟨bk, 113, none⟩ (.slice A2' ((X2 113).length + 1) c2'))) := ⟨⟨_, HM.out.next (by decide) HV.out HW.out HS3.out.1 HQ.out.2.2.1 (by
       have e := HQ.out.2.1
       rw [HP.out.2.1, upd_ne _ _ (by decide : (113 : Nat) ≠ 112)] at e
       exact e) (fun j h1 h2 => by rw [HQ.out.1, upd_ne _ _ h2, HP.out.1, upd_ne _ _ h1]) ((HP.out.2.2.2.then_ HS3.out.2.2).then_ HQ.out.2.2.2)⟩⟩
      clear HM HP HQ HW HL HV HS3 zc zf q14 q14a q14c q14e e14 l14 HC HC3
      go_wp2_with (fail)
      go_roundw
      case rel => exact ⟨k + 1, by omega, by go_num, ⟨by obtain ⟨s3, h3⟩ := HZ.out; exact ⟨s3, V3, X3, h3⟩⟩⟩
      case measure => simp [intOf]; omega
  ·have HF := Aside0.mk (hm.fin HA.out (by simp [live]) (by have := HH.out.2.2.1; show (X 116).length ≤ k; omega))
   have f17 := hm.sh.frozen 116
   have f20 := hm.sh.frozen 119
   clear hm
   go_wp2_with (fail)
   go_end0
   obtain ⟨⟨V2, X2, h2⟩, h3⟩ := HF.out
   exact ⟨rfl, h3, s1, V2, X2, h2⟩
end
end Go.Proofs.YtihjjkoddphmiaaGreatDoor.bk
