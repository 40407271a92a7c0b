/-
  The walks of (*Book).Ints and its kin: a list is noted.
-/
import Derived.Test.YtihjjkoddphmiaaGreatDoorNBkN
namespace Go.Proofs.YtihjjkoddphmiaaGreatDoor.bk
open Go.RowKit Go.Proofs.YtihjjkoddphmiaaGreatDoorW.PrintWords Go.Proofs.YtihjjkoddphmiaaGreatDoorW.PrintLast Go.Proofs.YtihjjkoddphmiaaGreatDoorW.PrintMore Go.Proofs.YtihjjkoddphmiaaGreatDoor.PImageApart
set_option linter.unusedVariables false
set_option linter.unusedSimpArgs false

theorem i3 : (Tryz.prog.info? 3).map (fun i => (i.zero, i.size, i.bytes)) = some (some (.int .i64 0), 1, 8) := by kernel_rfl
theorem i5 : (Tryz.prog.info? 5).map (fun i => (i.zero, i.size, i.bytes)) = some (some (.int .u8 0), 1, 1) := by kernel_rfl
theorem i42 : (Tryz.prog.info? 42).map (fun i => (i.zero, i.size, i.bytes)) = some (some (.int .u64 0), 1, 8) := by kernel_rfl
theorem i25 : (Tryz.prog.info? 25).map (fun i => (i.zero, i.size, i.bytes)) = some (some (.slice none 0 0), 1, 24) := by kernel_rfl
theorem i26 : (Tryz.prog.info? 26).map (fun i => (i.zero, i.size, i.bytes)) = some (some (.slice none 0 0), 1, 24) := by kernel_rfl
theorem i34 : (Tryz.prog.info? 34).map (fun i => (i.zero, i.size, i.bytes)) = some (some (.slice none 0 0), 1, 24) := by kernel_rfl
theorem i40 : (Tryz.prog.info? 40).map (fun i => (i.zero, i.size, i.bytes)) = some (some (.slice none 0 0), 1, 24) := by kernel_rfl
theorem i41 : (Tryz.prog.info? 41).map (fun i => (i.zero, i.size, i.bytes)) = some (some (.slice none 0 0), 1, 24) := by kernel_rfl
theorem i64 : (Tryz.prog.info? 64).map (fun i => (i.zero, i.size, i.bytes)) = some (some (.slice none 0 0), 1, 24) := by kernel_rfl
theorem i66 : (Tryz.prog.info? 66).map (fun i => (i.zero, i.size, i.bytes)) = some (some (.agg #[.int .u64 0, .int .i64 0, .int .i64 0, .slice none 0 0, .slice none 0 0]), 5, 72) := by kernel_rfl
/-- Behind a call that notes lists: blocks of T alone were touched. -/
def Kept1 (m : Nat → Prop) (w : World) (bk : Nat) (s : Nat → Option Bl) (R : Nat) (d : Int) (T : Nat → Prop) (e : Ending) (w' : World) : Prop :=
 e = .returned (.tuple #[]) ∧ Fr m w w' ∧ ∃ s' V' X', All m w' bk s' V' X' R d ∧ ∀ k g, s k = some g → ¬ T k → s' k = some g
section
variable {m : Nat → Prop} {w : World} {bk R : Nat} {s : Nat → Option Bl} {V : Nat → Value} {X : Nat → List Value} {d : Int}
/-- The cells of a kind, ahead of a call. -/
theorem All.lens (h : All m w bk s V X R d) {q : Nat} (hq : live q) : (X (4 + 9 * q)).length ≤ 1099511627776 ∧ (X (5 + 9 * q)).length ≤ 1099511627776 ∧ (X (6 + 9 * q)).length ≤ 1099511627776 ∧ (X (7 + 9 * q)).length ≤ 1099511627776 ∧ (X (8 + 9 * q)).length ≤ 1099511627776 ∧ (X (9 + 9 * q)).length ≤ 1099511627776 ∧ (X (10 + 9 * q)).length ≤ 1099511627776 ∧ (X (11 + 9 * q)).length ≤ 1099511627776 := by
 have k := h.ks q hq
 have h1 := k.ki.rm; have h2 := k.ki.ot; have h3 := k.ki.wn; have h4 := k.m1; have h5 := k.m2; have h6 := k.m3; have h7 := h.rb
 omega
theorem chain4 {X1 X2 X3 X4 : Nat → List Value} {a b c e : Nat} {p q r t : List Value} (h1 : X1 = upd X a (X a ++ p)) (h2 : X2 = upd X1 b (X1 b ++ q)) (h3 : X3 = upd X2 c (X2 c ++ r)) (h4 : X4 = upd X3 e (X3 e ++ t)) (d1 : a < b) (d2 : b < c) (d3 : c < e) : X4 = upd (upd (upd (upd X a (X a ++ p)) b (X b ++ q)) c (X c ++ r)) e (X e ++ t) := by
 have e2 : X1 b = X b := by rw [h1, upd_ne _ _ (by omega)]
 have e3 : X2 c = X c := by rw [h2, upd_ne _ _ (by omega), h1, upd_ne _ _ (by omega)]
 have e4 : X3 e = X e := by rw [h3, upd_ne _ _ (by omega), h2, upd_ne _ _ (by omega), h1, upd_ne _ _ (by omega)]
 rw [e4] at h4
 rw [e3] at h3
 rw [e2] at h2
 rw [h4, h3, h2, h1]
theorem Rest.row {q j : Nat} {V' V2 : Nat → Value} {X' X2 : Nat → List Value} {v : Value} {xs : List Value} (h : Rest q V V' X X') (hv : V2 = upd V' j v) (hx : X2 = upd X' j xs) (hj : 4 + 9 * q ≤ j ∧ j < 13 + 9 * q ∨ 121 ≤ j) : Rest q V V2 X X2 := by
 rw [hv, hx]; exact h.put hj v xs
theorem copied (h : Sh m w bk s V X) {q n c1 k1 e : Nat} {L : List Value} {w3 : World} (he : ety q = e) (hc : w3.ownsRow 0 e (esz q) (.slice (some ⟨k1, 0, none⟩) n c1) n L ∧ (w.drew.alloc (.cells #[] e)).grownBy w3 (some w.heap.size) ∧ (k1 = w.heap.size ∨ k1 = (w.drew.alloc (.cells #[] e)).heap.size)) :
  s k1 = none ∧ Sh m w3 bk (upd s k1 (some ⟨q, 3, n, c1, L⟩)) V X ∧ Fr m w w3 := by
 subst he
 obtain ⟨h1, h2, h3⟩ := hc
 have hk : w.heap.size ≤ k1 := by
  have : (w.drew.alloc (.cells #[] (ety q))).heap.size = w.heap.size + 1 := by simp
  omega
 have hg : w.grownBy w3 none := ⟨h2.os, h2.tape, h2.output, Nat.le_trans (by simp) h2.size, fun i hi _ => (h2.block i (by simp; omega) (by simp; omega)).trans (Below.heap_alloc w.drew _ i hi)⟩
 exact ⟨h.fresh hk, h.new (g := ⟨q, 3, n, c1, L⟩) hk hg h1, h.frS hg⟩
set_option maxHeartbeats 8000000 in
set_option maxRecDepth 100000 in
theorem keep_ints {T : Nat → Prop} (h : All m w bk s V X R d) (hd : 1 ≤ d ∧ d ≤ 900) (v : Value) (hv : Gv 1 s v T) (mk : Int) (hR : R + 2 ≤ 1099511627776) :
  Calls Tryz.prog 33 #[.pointer (some ⟨bk, 0, none⟩), v, .int .i64 mk] w (Kept1 m w bk s (R + 2) d T) := by
 obtain ⟨A, n, c, L, hvl⟩ := hv.1.vl
 have HT := hv.2
 obtain rfl := hvl.1
 have HV := Aside0.mk hvl
 clear hv hvl
 have c3 := (h.sh.cell (j := 3) (by decide)).trans (by rw [h.v3])
 have f3 := h.sh.frozen 3
 have e1 : wrap64 (d + 1) = d + 1 := by unfold wrap64; omega
 have HA := Aside0.mk (h.deep (d + 1))
 have HF := Aside0.mk (h.sh.frScal 3 (.int .i64 (d + 1)))
 clear h
 go_enter Tryz.func33, Tryz.ntmps33
 go_upto_region 1 with (fail)
 refine img.wp_world (p := fun wx => Aside0 (All m wx bk s (upd V 3 (.int .i64 (d + 1))) X R (d + 1)) ∧ Aside0 (Fr m w wx)) ⟨HA, HF⟩ ?_
 clear HA HF c3 f3
 rintro w0 ⟨HA, HF⟩
 obtain ⟨V0, hV0⟩ : ∃ V0, V0 = upd V 3 (.int .i64 (d + 1)) := ⟨_, rfl⟩
 rw [← hV0] at HA
 clear hV0
 obtain ⟨s0, X0, R0, hs0, hX0, hR0', HA, HV⟩ : ∃ s0 X0 R0, s0 = s ∧ X0 = X ∧ R0 = R ∧ Aside0 (All m w0 bk s0 V0 X0 R0 (d + 1)) ∧ Aside0 (Vl s0 1 0 (.slice A n c) A n c L) := ⟨s, X, R, rfl, rfl, rfl, HA, HV⟩
 have HS0 := Aside0.mk hs0
 have hR0 : R0 + 2 ≤ 1099511627776 := by omega
 clear hs0 hX0
 have HTY := Aside0.mk HA.out.ty
 have HL := Aside0.mk (HA.out.sh.vl HTY.out HV.out).2
 have HLN : Aside0 ((X0 13).length ≤ 1099511627776 ∧ (X0 14).length ≤ 1099511627776 ∧ (X0 15).length ≤ 1099511627776 ∧ (X0 16).length ≤ 1099511627776 ∧ (X0 17).length ≤ 1099511627776 ∧ (X0 18).length ≤ 1099511627776 ∧ (X0 19).length ≤ 1099511627776 ∧ (X0 20).length ≤ 1099511627776) := ⟨HA.out.lens (q := 1) (by simp [live])⟩
 obtain ⟨A15, c15, h15⟩ := HA.out.sh.slice (j := 15) (by decide)
 have k15 := (HA.out.sh.cell (j := 15) (by decide)).trans (congrArg some h15)
 have l15 : ((X0 15).length + 1) * 24 ≤ 140737488355328 := by have := HLN.out; omega
 go_wp2_with (at_builtin; refine push_row HA.out.sh 15 (by decide) (by decide) (by decide) rfl (.tmp 17) (.tmp 19) 26 (.slice none 0 0) 24 rfl Tryz.underlying26 i25 rfl (by decide) h15.symm rfl rfl l15 ?_; intro A1 c1 w1 V1 X1 HP zc zf)
 refine img.wp_world (p := fun wx => Aside0 (Sh m wx bk s0 V1 X1 ∧ Fr m w wx)) ⟨HP.out.2.2.1, HF.out.then_ HP.out.2.2.2⟩ ?_
 have HX1 := Aside0.mk HP.out.2.1
 have HV1 := Aside0.mk HP.out.1
 clear HP zc zf k15 l15 h15
 rintro w2 HS
 go_cut [] from 23 to 34 (fun wx => ∃ k1 c1 v2 V2 X2, Aside0 (s0 k1 = none ∧ V2 = upd V1 16 v2 ∧ X2 = upd X1 16 (X1 16 ++ [.slice (some ⟨k1, 0, none⟩) n c1]) ∧ Sh m wx bk (upd s0 k1 (some ⟨1, 3, n, c1, L⟩)) V2 X2 ∧ Fr m w wx))
 case first =>
  obtain ⟨A16, c16, h16⟩ := HS.out.1.slice (j := 16) (by decide)
  have l16 : ((X1 16).length + 1) * 24 ≤ 140737488355328 := by rw [HX1.out, upd_ne _ _ (by decide)]; have := HLN.out; omega
  have k16 := (HS.out.1.cell (j := 16) (by decide)).trans (congrArg some h16)
  have k16a := ((HS.out.1.still (grown_alloc w2 (.cells #[] 3))).cell (j := 16) (by decide)).trans (congrArg some h16)
  have HC := Aside0.mk (((HS.out.1.still (grown_drew w2)).still (grown_alloc w2.drew (.cells #[] 3))).vl HTY.out HV.out).2.2.2.2.1
  go_region_law (first
   | (refine copy_step (by rfl) (.tmp 28) (.tmp 29) 25 3 (.int .i64 0) 1 8 (by rfl) Tryz.underlying25 i3 rfl (by decide) w2.heap.size (by rfl) A n c (by rfl) (World.ownsRow_made w2.drew #[] 0 (Nat.zero_le _) (by decide) rfl) L HL.out.1 HL.out.2.1 HL.out.2.2.1 HC.out HL.out.2.2.2.2.1 HL.out.2.2.2.2.2.1 (by have := HL.out.2.2.2.2.2.1; omega) ?_; intro k1 c1 w3 HC3; have HS3 := Aside0.mk (copied (q := 1) HS.out.1 rfl HC3.out); have k16c := (HS3.out.2.1.cell (j := 16) (by decide)).trans (congrArg some h16); have k16e := ((HS3.out.2.1.still (grown_alloc w3 (.cells #[.slice (some ⟨k1, 0, none⟩) n c1] 25))).cell (j := 16) (by decide)).trans (congrArg some h16))
   | (refine push_step HS3.out.2.1 16 (by decide) (by decide) (by decide) (by rfl) (.tmp 27) (.tmp 31) 26 (.slice none 0 0) 24 (by rfl) Tryz.underlying26 i25 rfl (by decide) h16.symm (by rfl) rfl l16 ?_; intro A2 c2 w4 V2 X2 HP zc zf))
  all_goals
   go_wp2_with (fail)
   go_meet
   exact ⟨k1, c1, _, V2, X2, ⟨HS3.out.1, HP.out.1, HP.out.2.1, HP.out.2.2.1, (HS.out.2.then_ HS3.out.2.2).then_ HP.out.2.2.2⟩⟩
 case rest =>
  obtain ⟨k1, c1, v2, V2, X2, HS2⟩ := hcut
  clear HS
  obtain ⟨A18, c18, h18⟩ := HS2.out.2.2.2.1.slice (j := 18) (by decide)
  have k18 := (HS2.out.2.2.2.1.cell (j := 18) (by decide)).trans (congrArg some h18)
  have l18 : ((X2 18).length + 1) * 8 ≤ 140737488355328 := by rw [HS2.out.2.2.1, upd_ne _ _ (by decide), HX1.out, upd_ne _ _ (by decide)]; have := HLN.out; omega
  go_wp2_with (at_builtin; refine push_row HS2.out.2.2.2.1 18 (by decide) (by decide) (by decide) rfl (.tmp 39) (.tmp 41) 25 (.int .i64 0) 8 rfl Tryz.underlying25 i3 rfl (by decide) h18.symm rfl rfl l18 ?_; intro A3 c3 w5 V3 X3 HP zc zf)
  refine img.wp_world (p := fun wx => Aside0 (V3 = upd V2 18 (.slice A3 ((X2 18).length + 1) c3) ∧ X3 = upd X2 18 (X2 18 ++ [.int .i64 mk]) ∧ Sh m wx bk (upd s0 k1 (some ⟨1, 3, n, c1, L⟩)) V3 X3 ∧ Fr m w wx)) ⟨HP.out.1, HP.out.2.1, HP.out.2.2.1, HS2.out.2.2.2.2.then_ HP.out.2.2.2⟩ ?_
  clear HP zc zf k18 l18
  rintro w6 HS6
  go_cut [] from 45 to 59 (fun wx => ∃ x v4 V4 X4, Aside0 (V4 = upd V3 19 v4 ∧ X4 = upd X3 19 (X3 19 ++ [.int .i64 x]) ∧ Sh m wx bk (upd s0 k1 (some ⟨1, 3, n, c1, L⟩)) V4 X4 ∧ Fr m w wx))
  case first =>
   obtain ⟨A19, c19, h19⟩ := HS6.out.2.2.1.slice (j := 19) (by decide)
   have l19 : ((X3 19).length + 1) * 8 ≤ 140737488355328 := by rw [HS6.out.2.1, upd_ne _ _ (by decide), HS2.out.2.2.1, upd_ne _ _ (by decide), HX1.out, upd_ne _ _ (by decide)]; have := HLN.out; omega
   have k19 := (HS6.out.2.2.1.cell (j := 19) (by decide)).trans (congrArg some h19)
   obtain ⟨n0, hn0⟩ := HA.out.v8 1 (by decide)
   obtain ⟨t0, ht0⟩ := HA.out.v2
   have k21 : w6.cell? ⟨bk, 21, none⟩ = some (.int .i64 n0) := (HS6.out.2.2.1.cell (j := 21) (by decide)).trans (by rw [HS6.out.1, upd_ne _ _ (by decide), HS2.out.2.1, upd_ne _ _ (by decide), HV1.out, upd_ne _ _ (by decide)]; exact congrArg some hn0)
   have k0 : w6.cell? ⟨bk, 0, none⟩ = some (.bool false) := (HS6.out.2.2.1.cell (j := 0) (by decide)).trans (by rw [HS6.out.1, upd_ne _ _ (by decide), HS2.out.2.1, upd_ne _ _ (by decide), HV1.out, upd_ne _ _ (by decide)]; exact congrArg some HA.out.v0)
   have k2 : w6.cell? ⟨bk, 2, none⟩ = some (.int .i64 t0) := (HS6.out.2.2.1.cell (j := 2) (by decide)).trans (by rw [HS6.out.1, upd_ne _ _ (by decide), HS2.out.2.1, upd_ne _ _ (by decide), HV1.out, upd_ne _ _ (by decide)]; exact congrArg some ht0)
   have HD := Aside0.mk (due_any bk n0 t0 w6.drew k0 k2)
   clear k0 k2 hn0 ht0
   go_region_law (first
    | (refine push_step (HS6.out.2.2.1.still (grown_drew w6)) 19 (by decide) (by decide) (by decide) (by rfl) (.tmp 49) (.tmp 56) 25 (.int .i64 0) 8 (by rfl) Tryz.underlying25 i3 rfl (by decide) h19.symm (by rfl) rfl l19 ?_; intro A4 c4 w8 V4 X4 HP zc zf)
    | (go_simp; refine HD.out.mono ?_; rintro en w7 ⟨⟨x, rfl⟩, rfl⟩; have k19e := ((HS6.out.2.2.1.still (grown_alloc w6 (.cells #[.int .i64 x] 3))).cell (j := 19) (by decide)).trans (congrArg some h19)))
   all_goals
    go_wp2_with (fail)
    go_meet
    exact ⟨x, _, V4, X4, ⟨HP.out.1, HP.out.2.1, HP.out.2.2.1, HS6.out.2.2.2.then_ ((HS6.out.2.2.1.frS (grown_drew w6)).then_ HP.out.2.2.2)⟩⟩
  case rest =>
   obtain ⟨x, v4, V4, X4, HS7⟩ := hcut
   obtain ⟨n0, hn0⟩ := HA.out.v8 1 (by decide)
   have k21 : wc.cell? ⟨bk, 21, none⟩ = some (.int .i64 n0) := (HS7.out.2.2.1.cell (j := 21) (by decide)).trans (by rw [HS7.out.1, upd_ne _ _ (by decide), HS6.out.1, upd_ne _ _ (by decide), HS2.out.2.1, upd_ne _ _ (by decide), HV1.out, upd_ne _ _ (by decide)]; exact congrArg some hn0)
   have f21 := HS7.out.2.2.1.frozen 21
   have HAL := Aside0.mk (HA.out.keep (q := 1) (by simp [live]) HV.out HS2.out.1 (HS7.out.2.2.1.scal (j := 21) (v := .int .i64 (wrap64 (n0 + 1))) (by decide) rfl) (chain4 HX1.out HS2.out.2.2.1 HS6.out.2.1 HS7.out.2.1 (by decide) (by decide) (by decide))
    ((((((Rest.refl _ _ _).row HV1.out HX1.out (by decide)).row HS2.out.2.1 HS2.out.2.2.1 (by decide)).row HS6.out.1 HS6.out.2.1 (by decide)).row HS7.out.1 HS7.out.2.1 (by decide)).scal (by decide) _) ⟨_, upd_same _ _ _⟩ hR0)
   have HFR := Aside0.mk (HS7.out.2.2.2.then_ (HS7.out.2.2.1.frScal 21 (.int .i64 (wrap64 (n0 + 1)))))
   clear HS2 HS6 HS7 HA HX1 HV1 HV HL HLN HTY
   obtain ⟨s2, hal, hold⟩ := HAL.out
   have HD := Aside0.mk (done_deep hal ⟨by omega, by omega⟩)
   have HO := Aside0.mk hold
   clear hal hold HAL
   go_wp2_with (fail)
   refine HD.out.mono ?_
   rintro en w9 ⟨rfl, ⟨V5, hal⟩, hfr⟩
   have HAL := Aside0.mk hal
   have HF9 := Aside0.mk (HFR.out.then_ hfr)
   clear hal hfr
   go_wp2_with (fail)
   go_end0
   refine ⟨rfl, HF9.out, s2, V5, X4, ?_, fun k g e1 e2 => HO.out k g (by rw [HS0.out]; exact e1) (fun e => e2 (HT k e))⟩
   have := HAL.out
   rwa [show d + 1 - 1 = d by omega, hR0'] at this
set_option maxHeartbeats 8000000 in
set_option maxRecDepth 100000 in
theorem keep_words {T : Nat → Prop} (h : All m w bk s V X R d) (hd : 1 ≤ d ∧ d ≤ 900) (v : Value) (hv : Gv 3 s v T) (mk : Int) (hR : R + 2 ≤ 1099511627776) :
  Calls Tryz.prog 73 #[.pointer (some ⟨bk, 0, none⟩), v, .int .i64 mk] w (Kept1 m w bk s (R + 2) d T) := by
 obtain ⟨A, n, c, L, hvl⟩ := hv.1.vl
 have HT := hv.2
 obtain rfl := hvl.1
 have HV := Aside0.mk hvl
 clear hv hvl
 have c3 := (h.sh.cell (j := 3) (by decide)).trans (by rw [h.v3])
 have f3 := h.sh.frozen 3
 have e1 : wrap64 (d + 1) = d + 1 := by unfold wrap64; omega
 have HA := Aside0.mk (h.deep (d + 1))
 have HF := Aside0.mk (h.sh.frScal 3 (.int .i64 (d + 1)))
 clear h
 go_enter Tryz.func73, Tryz.ntmps73
 go_upto_region 1 with (fail)
 refine img.wp_world (p := fun wx => Aside0 (All m wx bk s (upd V 3 (.int .i64 (d + 1))) X R (d + 1)) ∧ Aside0 (Fr m w wx)) ⟨HA, HF⟩ ?_
 clear HA HF c3 f3
 rintro w0 ⟨HA, HF⟩
 obtain ⟨V0, hV0⟩ : ∃ V0, V0 = upd V 3 (.int .i64 (d + 1)) := ⟨_, rfl⟩
 rw [← hV0] at HA
 clear hV0
 obtain ⟨s0, X0, R0, hs0, hX0, hR0', HA, HV⟩ : ∃ s0 X0 R0, s0 = s ∧ X0 = X ∧ R0 = R ∧ Aside0 (All m w0 bk s0 V0 X0 R0 (d + 1)) ∧ Aside0 (Vl s0 3 0 (.slice A n c) A n c L) := ⟨s, X, R, rfl, rfl, rfl, HA, HV⟩
 have HS0 := Aside0.mk hs0
 have hR0 : R0 + 2 ≤ 1099511627776 := by omega
 clear hs0 hX0
 have HTY := Aside0.mk HA.out.ty
 have HL := Aside0.mk (HA.out.sh.vl HTY.out HV.out).2
 have HLN : Aside0 ((X0 31).length ≤ 1099511627776 ∧ (X0 32).length ≤ 1099511627776 ∧ (X0 33).length ≤ 1099511627776 ∧ (X0 34).length ≤ 1099511627776 ∧ (X0 35).length ≤ 1099511627776 ∧ (X0 36).length ≤ 1099511627776 ∧ (X0 37).length ≤ 1099511627776 ∧ (X0 38).length ≤ 1099511627776) := ⟨HA.out.lens (q := 3) (by simp [live])⟩
 obtain ⟨A15, c15, h15⟩ := HA.out.sh.slice (j := 33) (by decide)
 have k15 := (HA.out.sh.cell (j := 33) (by decide)).trans (congrArg some h15)
 have l15 : ((X0 33).length + 1) * 24 ≤ 140737488355328 := by have := HLN.out; omega
 go_wp2_with (at_builtin; refine push_row HA.out.sh 33 (by decide) (by decide) (by decide) rfl (.tmp 17) (.tmp 19) 28 (.slice none 0 0) 24 rfl Tryz.underlying28 i64 rfl (by decide) h15.symm rfl rfl l15 ?_; intro A1 c1 w1 V1 X1 HP zc zf)
 refine img.wp_world (p := fun wx => Aside0 (Sh m wx bk s0 V1 X1 ∧ Fr m w wx)) ⟨HP.out.2.2.1, HF.out.then_ HP.out.2.2.2⟩ ?_
 have HX1 := Aside0.mk HP.out.2.1
 have HV1 := Aside0.mk HP.out.1
 clear HP zc zf k15 l15 h15
 rintro w2 HS
 go_cut [] from 23 to 34 (fun wx => ∃ k1 c1 v2 V2 X2, Aside0 (s0 k1 = none ∧ V2 = upd V1 34 v2 ∧ X2 = upd X1 34 (X1 34 ++ [.slice (some ⟨k1, 0, none⟩) n c1]) ∧ Sh m wx bk (upd s0 k1 (some ⟨3, 3, n, c1, L⟩)) V2 X2 ∧ Fr m w wx))
 case first =>
  obtain ⟨A16, c16, h16⟩ := HS.out.1.slice (j := 34) (by decide)
  have l16 : ((X1 34).length + 1) * 24 ≤ 140737488355328 := by rw [HX1.out, upd_ne _ _ (by decide)]; have := HLN.out; omega
  have k16 := (HS.out.1.cell (j := 34) (by decide)).trans (congrArg some h16)
  have k16a := ((HS.out.1.still (grown_alloc w2 (.cells #[] 42))).cell (j := 34) (by decide)).trans (congrArg some h16)
  have HC := Aside0.mk (((HS.out.1.still (grown_drew w2)).still (grown_alloc w2.drew (.cells #[] 42))).vl HTY.out HV.out).2.2.2.2.1
  go_region_law (first
   | (refine copy_step (by rfl) (.tmp 28) (.tmp 29) 64 42 (.int .u64 0) 1 8 (by rfl) Tryz.underlying64 i42 rfl (by decide) w2.heap.size (by rfl) A n c (by rfl) (World.ownsRow_made w2.drew #[] 0 (Nat.zero_le _) (by decide) rfl) L HL.out.1 HL.out.2.1 HL.out.2.2.1 HC.out HL.out.2.2.2.2.1 HL.out.2.2.2.2.2.1 (by have := HL.out.2.2.2.2.2.1; omega) ?_; intro k1 c1 w3 HC3; have HS3 := Aside0.mk (copied (q := 3) HS.out.1 rfl HC3.out); have k16c := (HS3.out.2.1.cell (j := 34) (by decide)).trans (congrArg some h16); have k16e := ((HS3.out.2.1.still (grown_alloc w3 (.cells #[.slice (some ⟨k1, 0, none⟩) n c1] 64))).cell (j := 34) (by decide)).trans (congrArg some h16))
   | (refine push_step HS3.out.2.1 34 (by decide) (by decide) (by decide) (by rfl) (.tmp 27) (.tmp 31) 28 (.slice none 0 0) 24 (by rfl) Tryz.underlying28 i64 rfl (by decide) h16.symm (by rfl) rfl l16 ?_; intro A2 c2 w4 V2 X2 HP zc zf))
  all_goals
   go_wp2_with (fail)
   go_meet
   exact ⟨k1, c1, _, V2, X2, ⟨HS3.out.1, HP.out.1, HP.out.2.1, HP.out.2.2.1, (HS.out.2.then_ HS3.out.2.2).then_ HP.out.2.2.2⟩⟩
 case rest =>
  obtain ⟨k1, c1, v2, V2, X2, HS2⟩ := hcut
  clear HS
  obtain ⟨A18, c18, h18⟩ := HS2.out.2.2.2.1.slice (j := 36) (by decide)
  have k18 := (HS2.out.2.2.2.1.cell (j := 36) (by decide)).trans (congrArg some h18)
  have l18 : ((X2 36).length + 1) * 8 ≤ 140737488355328 := by rw [HS2.out.2.2.1, upd_ne _ _ (by decide), HX1.out, upd_ne _ _ (by decide)]; have := HLN.out; omega
  go_wp2_with (at_builtin; refine push_row HS2.out.2.2.2.1 36 (by decide) (by decide) (by decide) rfl (.tmp 39) (.tmp 41) 25 (.int .i64 0) 8 rfl Tryz.underlying25 i3 rfl (by decide) h18.symm rfl rfl l18 ?_; intro A3 c3 w5 V3 X3 HP zc zf)
  refine img.wp_world (p := fun wx => Aside0 (V3 = upd V2 36 (.slice A3 ((X2 36).length + 1) c3) ∧ X3 = upd X2 36 (X2 36 ++ [.int .i64 mk]) ∧ Sh m wx bk (upd s0 k1 (some ⟨3, 3, n, c1, L⟩)) V3 X3 ∧ Fr m w wx)) ⟨HP.out.1, HP.out.2.1, HP.out.2.2.1, HS2.out.2.2.2.2.then_ HP.out.2.2.2⟩ ?_
  clear HP zc zf k18 l18
  rintro w6 HS6
  go_cut [] from 45 to 59 (fun wx => ∃ x v4 V4 X4, Aside0 (V4 = upd V3 37 v4 ∧ X4 = upd X3 37 (X3 37 ++ [.int .i64 x]) ∧ Sh m wx bk (upd s0 k1 (some ⟨3, 3, n, c1, L⟩)) V4 X4 ∧ Fr m w wx))
  case first =>
   obtain ⟨A19, c19, h19⟩ := HS6.out.2.2.1.slice (j := 37) (by decide)
   have l19 : ((X3 37).length + 1) * 8 ≤ 140737488355328 := by rw [HS6.out.2.1, upd_ne _ _ (by decide), HS2.out.2.2.1, upd_ne _ _ (by decide), HX1.out, upd_ne _ _ (by decide)]; have := HLN.out; omega
   have k19 := (HS6.out.2.2.1.cell (j := 37) (by decide)).trans (congrArg some h19)
   obtain ⟨n0, hn0⟩ := HA.out.v8 3 (by decide)
   obtain ⟨t0, ht0⟩ := HA.out.v2
   have k21 : w6.cell? ⟨bk, 39, none⟩ = some (.int .i64 n0) := (HS6.out.2.2.1.cell (j := 39) (by decide)).trans (by rw [HS6.out.1, upd_ne _ _ (by decide), HS2.out.2.1, upd_ne _ _ (by decide), HV1.out, upd_ne _ _ (by decide)]; exact congrArg some hn0)
   have k0 : w6.cell? ⟨bk, 0, none⟩ = some (.bool false) := (HS6.out.2.2.1.cell (j := 0) (by decide)).trans (by rw [HS6.out.1, upd_ne _ _ (by decide), HS2.out.2.1, upd_ne _ _ (by decide), HV1.out, upd_ne _ _ (by decide)]; exact congrArg some HA.out.v0)
   have k2 : w6.cell? ⟨bk, 2, none⟩ = some (.int .i64 t0) := (HS6.out.2.2.1.cell (j := 2) (by decide)).trans (by rw [HS6.out.1, upd_ne _ _ (by decide), HS2.out.2.1, upd_ne _ _ (by decide), HV1.out, upd_ne _ _ (by decide)]; exact congrArg some ht0)
   have HD := Aside0.mk (due_any bk n0 t0 w6.drew k0 k2)
   clear k0 k2 hn0 ht0
   go_region_law (first
    | (refine push_step (HS6.out.2.2.1.still (grown_drew w6)) 37 (by decide) (by decide) (by decide) (by rfl) (.tmp 49) (.tmp 56) 25 (.int .i64 0) 8 (by rfl) Tryz.underlying25 i3 rfl (by decide) h19.symm (by rfl) rfl l19 ?_; intro A4 c4 w8 V4 X4 HP zc zf)
    | (go_simp; refine HD.out.mono ?_; rintro en w7 ⟨⟨x, rfl⟩, rfl⟩; have k19e := ((HS6.out.2.2.1.still (grown_alloc w6 (.cells #[.int .i64 x] 3))).cell (j := 37) (by decide)).trans (congrArg some h19)))
   all_goals
    go_wp2_with (fail)
    go_meet
    exact ⟨x, _, V4, X4, ⟨HP.out.1, HP.out.2.1, HP.out.2.2.1, HS6.out.2.2.2.then_ ((HS6.out.2.2.1.frS (grown_drew w6)).then_ HP.out.2.2.2)⟩⟩
  case rest =>
   obtain ⟨x, v4, V4, X4, HS7⟩ := hcut
   obtain ⟨n0, hn0⟩ := HA.out.v8 3 (by decide)
   have k21 : wc.cell? ⟨bk, 39, none⟩ = some (.int .i64 n0) := (HS7.out.2.2.1.cell (j := 39) (by decide)).trans (by rw [HS7.out.1, upd_ne _ _ (by decide), HS6.out.1, upd_ne _ _ (by decide), HS2.out.2.1, upd_ne _ _ (by decide), HV1.out, upd_ne _ _ (by decide)]; exact congrArg some hn0)
   have f21 := HS7.out.2.2.1.frozen 39
   have HAL := Aside0.mk (HA.out.keep (q := 3) (by simp [live]) HV.out HS2.out.1 (HS7.out.2.2.1.scal (j := 39) (v := .int .i64 (wrap64 (n0 + 1))) (by decide) rfl) (chain4 HX1.out HS2.out.2.2.1 HS6.out.2.1 HS7.out.2.1 (by decide) (by decide) (by decide))
    ((((((Rest.refl _ _ _).row HV1.out HX1.out (by decide)).row HS2.out.2.1 HS2.out.2.2.1 (by decide)).row HS6.out.1 HS6.out.2.1 (by decide)).row HS7.out.1 HS7.out.2.1 (by decide)).scal (by decide) _) ⟨_, upd_same _ _ _⟩ hR0)
   have HFR := Aside0.mk (HS7.out.2.2.2.then_ (HS7.out.2.2.1.frScal 39 (.int .i64 (wrap64 (n0 + 1)))))
   clear HS2 HS6 HS7 HA HX1 HV1 HV HL HLN HTY
   obtain ⟨s2, hal, hold⟩ := HAL.out
   have HD := Aside0.mk (done_deep hal ⟨by omega, by omega⟩)
   have HO := Aside0.mk hold
   clear hal hold HAL
   go_wp2_with (fail)
   refine HD.out.mono ?_
   rintro en w9 ⟨rfl, ⟨V5, hal⟩, hfr⟩
   have HAL := Aside0.mk hal
   have HF9 := Aside0.mk (HFR.out.then_ hfr)
   clear hal hfr
   go_wp2_with (fail)
   go_end0
   refine ⟨rfl, HF9.out, s2, V5, X4, ?_, fun k g e1 e2 => HO.out k g (by rw [HS0.out]; exact e1) (fun e => e2 (HT k e))⟩
   have := HAL.out
   rwa [show d + 1 - 1 = d by omega, hR0'] at this
set_option maxHeartbeats 8000000 in
set_option maxRecDepth 100000 in
theorem keep_intLists {T : Nat → Prop} {N : Nat} (h : All m w bk s V X R d) (hd : 1 ≤ d ∧ d ≤ 800) (v : Value) (hv : Gv9 N s v T) (mk : Int) (hR : R + (N * 2 + 2) ≤ 1099511627776) :
  Calls Tryz.prog 74 #[.pointer (some ⟨bk, 0, none⟩), v, .int .i64 mk] w (Kept1 m w bk s (R + (N * 2 + 2)) d T) := by
 obtain ⟨A, n, c, L, F, hvl⟩ := hv
 obtain rfl := hvl.vl.1
 have HG := Aside0.mk hvl
 have hnN := hvl.le
 have hmono : ∀ i, i ≤ n → i * 2 ≤ N * 2 := fun i hi => Nat.mul_le_mul_right _ (Nat.le_trans hi hnN)
 have hN1 : N * 2 + 2 ≤ (N * 2 + 2) := by omega
 have hn62 : n ≤ 1099511627776 := (h.sh.vl h.ty hvl.vl).2.2.2.2.2.2.1
 clear hvl
 have c3 := (h.sh.cell (j := 3) (by decide)).trans (by rw [h.v3])
 have f3 := h.sh.frozen 3
 have e1 : wrap64 (d + 1) = d + 1 := by unfold wrap64; omega
 have HA := Aside0.mk (h.deep (d + 1))
 have HF := Aside0.mk (h.sh.frScal 3 (.int .i64 (d + 1)))
 clear h
 go_enter Tryz.func74, Tryz.ntmps74
 go_upto_region 1 with (fail)
 refine img.wp_world (p := fun wx => Aside0 (All m wx bk s (upd V 3 (.int .i64 (d + 1))) X R (d + 1)) ∧ Aside0 (Fr m w wx)) ⟨HA, HF⟩ ?_
 clear HA HF c3 f3
 rintro w0 ⟨HA, HF⟩
 obtain ⟨V0, hV0⟩ : ∃ V0, V0 = upd V 3 (.int .i64 (d + 1)) := ⟨_, rfl⟩
 rw [← hV0] at HA
 clear hV0
 go_wp2_with (fail)
 go_loopw [6] (fun i wr => ∃ k : Nat, k ≤ n ∧ i = .int .i64 k ∧ ∃ s1 V1 X1, Aside0 (All m wr bk s1 V1 X1 (R + k * 2) (d + 1) ∧ Fr m w wr ∧ ∀ k' g, s k' = some g → ¬ (∃ j, j < k ∧ F j k') → s1 k' = some g)) (fun i _ => n - (intOf i).toNat)
 case atStart => exact ⟨0, Nat.zero_le _, rfl, s, V0, X, ⟨by rw [Nat.zero_mul]; exact HA.out, HF.out, fun _ _ e _ => e⟩⟩
 case round =>
  clear HA HF
  obtain ⟨k, hk, rfl, s1, V1, X1, HX⟩ := hrel
  have HV1 := Aside0.mk (HG.out.vl.far (s' := s1) (fun k' g e1 e2 => HX.out.2.2 k' g e1 (fun ⟨j, hj, hf⟩ => HG.out.fo j k' (by omega) hf e2)))
  by_cases hlt : k < n
  ·obtain ⟨x, hx⟩ : ∃ x, L[k]? = some x := ⟨_, List.getElem?_eq_getElem (by have := HG.out.ln; omega)⟩
   obtain ⟨b, rfl⟩ : ∃ b, A = some ⟨b, 0, none⟩ := by
    rcases HV1.out.2 with ⟨-, e, -⟩ | ⟨b, e, -⟩
    ·omega
    ·exact ⟨b, e⟩
   have hc := (HX.out.1.sh.vl HX.out.1.ty HV1.out).2.2.2.2.1 _ rfl k x hx
   rw [add_eq] at hc
   have HE := (HG.out.el k x hx).far (s' := s1) (fun k' g e1 e2 => HX.out.2.2 k' g e1 (fun ⟨j, hj, hf⟩ => HG.out.ne j k k' hj hlt hf e2))
   have HK := Aside0.mk (fun mk' => keep_ints HX.out.1 ⟨by omega, by omega⟩ x HE mk' (by have := hmono (k + 1) (by omega); rw [Nat.add_mul] at this; omega))
   clear HE HV1
   go_wp2_with (fail)
   refine (HK.out _).mono ?_
   rintro en w4 ⟨rfl, hf4, s4, V4, X4, hal, hold⟩
   have HZ : Aside0 (All m w4 bk s4 V4 X4 (R + (k + 1) * 2) (d + 1) ∧ Fr m w w4 ∧ ∀ k' g, s k' = some g → ¬ (∃ j, j < k + 1 ∧ F j k') → s4 k' = some g) := ⟨by rw [Nat.add_mul, Nat.one_mul, ← Nat.add_assoc]; exact hal, HX.out.2.1.then_ hf4, fun k' g e1 e2 => hold k' g (HX.out.2.2 k' g e1 (fun ⟨j, hj, hf⟩ => e2 ⟨j, by omega, hf⟩)) (fun hf => e2 ⟨k, by omega, hf⟩)⟩
   clear hal hold hf4 HK HX hc hx
   go_wp2_with (fail)
   go_roundw
   case rel => exact ⟨k + 1, by omega, by go_num, s4, V4, X4, HZ⟩
   case measure => simp [intOf]; omega
  ·obtain rfl : n = k := by omega
   obtain ⟨w0, rfl⟩ : ∃ w0, w0 = wr := ⟨_, rfl⟩
   obtain ⟨s0, V0, X0, R0, hR0', HA, HV, HF, HS0⟩ : ∃ s0 V0 X0 R0, R0 = R + n * 2 ∧ Aside0 (All m w0 bk s0 V0 X0 R0 (d + 1)) ∧ Aside0 (Vl s0 9 0 (.slice A n c) A n c L) ∧ Aside0 (Fr m w w0) ∧ Aside0 (∀ k' g, s k' = some g → ¬ (∃ j, j < n ∧ F j k') → s0 k' = some g) := ⟨s1, V1, X1, _, rfl, ⟨HX.out.1⟩, HV1, ⟨HX.out.2.1⟩, ⟨HX.out.2.2⟩⟩
   have hR0 : R0 + 2 ≤ 1099511627776 := by have := hmono n (Nat.le_refl _); omega
   have hR1 : R0 + 2 ≤ R + (N * 2 + 2) := by have := hmono n (Nat.le_refl _); omega
   clear HX HV1
   have HTY := Aside0.mk HA.out.ty
   have HL := Aside0.mk (HA.out.sh.vl HTY.out HV.out).2
   have HLN : Aside0 ((X0 85).length ≤ 1099511627776 ∧ (X0 86).length ≤ 1099511627776 ∧ (X0 87).length ≤ 1099511627776 ∧ (X0 88).length ≤ 1099511627776 ∧ (X0 89).length ≤ 1099511627776 ∧ (X0 90).length ≤ 1099511627776 ∧ (X0 91).length ≤ 1099511627776 ∧ (X0 92).length ≤ 1099511627776) := ⟨HA.out.lens (q := 9) (by simp [live])⟩
   obtain ⟨A15, c15, h15⟩ := HA.out.sh.slice (j := 87) (by decide)
   have k15 := (HA.out.sh.cell (j := 87) (by decide)).trans (congrArg some h15)
   have l15 : ((X0 87).length + 1) * 24 ≤ 140737488355328 := by have := HLN.out; omega
   go_wp2_with (at_builtin; refine push_row HA.out.sh 87 (by decide) (by decide) (by decide) rfl (.tmp 37) (.tmp 39) 34 (.slice none 0 0) 24 rfl Tryz.underlying34 i26 rfl (by decide) h15.symm rfl rfl l15 ?_; intro A1 c1 w1 V1 X1 HP zc zf)
   refine img.wp_world (p := fun wx => Aside0 (Sh m wx bk s0 V1 X1 ∧ Fr m w wx)) ⟨HP.out.2.2.1, HF.out.then_ HP.out.2.2.2⟩ ?_
   have HX1 := Aside0.mk HP.out.2.1
   have HV1 := Aside0.mk HP.out.1
   clear HP zc zf k15 l15 h15
   rintro w2 HS
   go_cut [] from 43 to 54 (fun wx => ∃ k1 c1 v2 V2 X2, Aside0 (s0 k1 = none ∧ V2 = upd V1 88 v2 ∧ X2 = upd X1 88 (X1 88 ++ [.slice (some ⟨k1, 0, none⟩) n c1]) ∧ Sh m wx bk (upd s0 k1 (some ⟨9, 3, n, c1, L⟩)) V2 X2 ∧ Fr m w wx))
   case first =>
    obtain ⟨A16, c16, h16⟩ := HS.out.1.slice (j := 88) (by decide)
    have l16 : ((X1 88).length + 1) * 24 ≤ 140737488355328 := by rw [HX1.out, upd_ne _ _ (by decide)]; have := HLN.out; omega
    have k16 := (HS.out.1.cell (j := 88) (by decide)).trans (congrArg some h16)
    have k16a := ((HS.out.1.still (grown_alloc w2 (.cells #[] 25))).cell (j := 88) (by decide)).trans (congrArg some h16)
    have HC := Aside0.mk (((HS.out.1.still (grown_drew w2)).still (grown_alloc w2.drew (.cells #[] 25))).vl HTY.out HV.out).2.2.2.2.1
    go_region_law (first
     | (refine copy_step (by rfl) (.tmp 48) (.tmp 49) 26 25 (.slice none 0 0) 1 24 (by rfl) Tryz.underlying26 i25 rfl (by decide) w2.heap.size (by rfl) A n c (by rfl) (World.ownsRow_made w2.drew #[] 0 (Nat.zero_le _) (by decide) rfl) L HL.out.1 HL.out.2.1 HL.out.2.2.1 HC.out HL.out.2.2.2.2.1 HL.out.2.2.2.2.2.1 (by have := HL.out.2.2.2.2.2.1; omega) ?_; intro k1 c1 w3 HC3; have HS3 := Aside0.mk (copied (q := 9) HS.out.1 rfl HC3.out); have k16c := (HS3.out.2.1.cell (j := 88) (by decide)).trans (congrArg some h16); have k16e := ((HS3.out.2.1.still (grown_alloc w3 (.cells #[.slice (some ⟨k1, 0, none⟩) n c1] 26))).cell (j := 88) (by decide)).trans (congrArg some h16))
     | (refine push_step HS3.out.2.1 88 (by decide) (by decide) (by decide) (by rfl) (.tmp 47) (.tmp 51) 34 (.slice none 0 0) 24 (by rfl) Tryz.underlying34 i26 rfl (by decide) h16.symm (by rfl) rfl l16 ?_; intro A2 c2 w4 V2 X2 HP zc zf))
    all_goals
     go_wp2_with (fail)
     go_meet
     exact ⟨k1, c1, _, V2, X2, ⟨HS3.out.1, HP.out.1, HP.out.2.1, HP.out.2.2.1, (HS.out.2.then_ HS3.out.2.2).then_ HP.out.2.2.2⟩⟩
   case rest =>
    obtain ⟨k1, c1, v2, V2, X2, HS2⟩ := hcut
    clear HS
    obtain ⟨A18, c18, h18⟩ := HS2.out.2.2.2.1.slice (j := 90) (by decide)
    have k18 := (HS2.out.2.2.2.1.cell (j := 90) (by decide)).trans (congrArg some h18)
    have l18 : ((X2 90).length + 1) * 8 ≤ 140737488355328 := by rw [HS2.out.2.2.1, upd_ne _ _ (by decide), HX1.out, upd_ne _ _ (by decide)]; have := HLN.out; omega
    go_wp2_with (at_builtin; refine push_row HS2.out.2.2.2.1 90 (by decide) (by decide) (by decide) rfl (.tmp 59) (.tmp 61) 25 (.int .i64 0) 8 rfl Tryz.underlying25 i3 rfl (by decide) h18.symm rfl rfl l18 ?_; intro A3 c3 w5 V3 X3 HP zc zf)
    refine img.wp_world (p := fun wx => Aside0 (V3 = upd V2 90 (.slice A3 ((X2 90).length + 1) c3) ∧ X3 = upd X2 90 (X2 90 ++ [.int .i64 mk]) ∧ Sh m wx bk (upd s0 k1 (some ⟨9, 3, n, c1, L⟩)) V3 X3 ∧ Fr m w wx)) ⟨HP.out.1, HP.out.2.1, HP.out.2.2.1, HS2.out.2.2.2.2.then_ HP.out.2.2.2⟩ ?_
    clear HP zc zf k18 l18
    rintro w6 HS6
    go_cut [] from 65 to 79 (fun wx => ∃ x v4 V4 X4, Aside0 (V4 = upd V3 91 v4 ∧ X4 = upd X3 91 (X3 91 ++ [.int .i64 x]) ∧ Sh m wx bk (upd s0 k1 (some ⟨9, 3, n, c1, L⟩)) V4 X4 ∧ Fr m w wx))
    case first =>
     obtain ⟨A19, c19, h19⟩ := HS6.out.2.2.1.slice (j := 91) (by decide)
     have l19 : ((X3 91).length + 1) * 8 ≤ 140737488355328 := by rw [HS6.out.2.1, upd_ne _ _ (by decide), HS2.out.2.2.1, upd_ne _ _ (by decide), HX1.out, upd_ne _ _ (by decide)]; have := HLN.out; omega
     have k19 := (HS6.out.2.2.1.cell (j := 91) (by decide)).trans (congrArg some h19)
     obtain ⟨n0, hn0⟩ := HA.out.v8 9 (by decide)
     obtain ⟨t0, ht0⟩ := HA.out.v2
     have k21 : w6.cell? ⟨bk, 93, none⟩ = some (.int .i64 n0) := (HS6.out.2.2.1.cell (j := 93) (by decide)).trans (by rw [HS6.out.1, upd_ne _ _ (by decide), HS2.out.2.1, upd_ne _ _ (by decide), HV1.out, upd_ne _ _ (by decide)]; exact congrArg some hn0)
     have k0 : w6.cell? ⟨bk, 0, none⟩ = some (.bool false) := (HS6.out.2.2.1.cell (j := 0) (by decide)).trans (by rw [HS6.out.1, upd_ne _ _ (by decide), HS2.out.2.1, upd_ne _ _ (by decide), HV1.out, upd_ne _ _ (by decide)]; exact congrArg some HA.out.v0)
     have k2 : w6.cell? ⟨bk, 2, none⟩ = some (.int .i64 t0) := (HS6.out.2.2.1.cell (j := 2) (by decide)).trans (by rw [HS6.out.1, upd_ne _ _ (by decide), HS2.out.2.1, upd_ne _ _ (by decide), HV1.out, upd_ne _ _ (by decide)]; exact congrArg some ht0)
     have HD := Aside0.mk (due_any bk n0 t0 w6.drew k0 k2)
     clear k0 k2 hn0 ht0
     go_region_law (first
      | (refine push_step (HS6.out.2.2.1.still (grown_drew w6)) 91 (by decide) (by decide) (by decide) (by rfl) (.tmp 69) (.tmp 76) 25 (.int .i64 0) 8 (by rfl) Tryz.underlying25 i3 rfl (by decide) h19.symm (by rfl) rfl l19 ?_; intro A4 c4 w8 V4 X4 HP zc zf)
      | (go_simp; refine HD.out.mono ?_; rintro en w7 ⟨⟨x, rfl⟩, rfl⟩; have k19e := ((HS6.out.2.2.1.still (grown_alloc w6 (.cells #[.int .i64 x] 3))).cell (j := 91) (by decide)).trans (congrArg some h19)))
     all_goals
      go_wp2_with (fail)
      go_meet
      exact ⟨x, _, V4, X4, ⟨HP.out.1, HP.out.2.1, HP.out.2.2.1, HS6.out.2.2.2.then_ ((HS6.out.2.2.1.frS (grown_drew w6)).then_ HP.out.2.2.2)⟩⟩
    case rest =>
     obtain ⟨x, v4, V4, X4, HS7⟩ := hcut
     obtain ⟨n0, hn0⟩ := HA.out.v8 9 (by decide)
     have k21 : wc.cell? ⟨bk, 93, none⟩ = some (.int .i64 n0) := (HS7.out.2.2.1.cell (j := 93) (by decide)).trans (by rw [HS7.out.1, upd_ne _ _ (by decide), HS6.out.1, upd_ne _ _ (by decide), HS2.out.2.1, upd_ne _ _ (by decide), HV1.out, upd_ne _ _ (by decide)]; exact congrArg some hn0)
     have f21 := HS7.out.2.2.1.frozen 93
     have HAL := Aside0.mk (HA.out.keep (q := 9) (by simp [live]) HV.out HS2.out.1 (HS7.out.2.2.1.scal (j := 93) (v := .int .i64 (wrap64 (n0 + 1))) (by decide) rfl) (chain4 HX1.out HS2.out.2.2.1 HS6.out.2.1 HS7.out.2.1 (by decide) (by decide) (by decide))
      ((((((Rest.refl _ _ _).row HV1.out HX1.out (by decide)).row HS2.out.2.1 HS2.out.2.2.1 (by decide)).row HS6.out.1 HS6.out.2.1 (by decide)).row HS7.out.1 HS7.out.2.1 (by decide)).scal (by decide) _) ⟨_, upd_same _ _ _⟩ hR0)
     have HFR := Aside0.mk (HS7.out.2.2.2.then_ (HS7.out.2.2.1.frScal 93 (.int .i64 (wrap64 (n0 + 1)))))
     clear HS2 HS6 HS7 HA HX1 HV1 HV HL HLN HTY
     obtain ⟨s2, hal, hold⟩ := HAL.out
     have HD := Aside0.mk (done_deep hal ⟨by omega, by omega⟩)
     have HO := Aside0.mk hold
     clear hal hold HAL
     go_wp2_with (fail)
     refine HD.out.mono ?_
     rintro en w9 ⟨rfl, ⟨V5, hal⟩, hfr⟩
     have HAL := Aside0.mk hal
     have HF9 := Aside0.mk (HFR.out.then_ hfr)
     clear hal hfr
     go_wp2_with (fail)
     go_end0
     refine ⟨rfl, HF9.out, s2, V5, X4, ?_, fun k_ g e1 e2 => HO.out k_ g (HS0.out k_ g e1 (fun ⟨j, hj, hf⟩ => e2 (HG.out.ft j k_ hj hf))) (fun e => e2 (HG.out.own k_ e))⟩
     have := HAL.out.room hR1 (by omega)
     rwa [show d + 1 - 1 = d by omega] at this
set_option maxHeartbeats 8000000 in
set_option maxRecDepth 100000 in
theorem keep_frames {T : Nat → Prop} {N : Nat} (h : All m w bk s V X R d) (hd : 1 ≤ d ∧ d ≤ 700) (v : Value) (hv : Gv11 N s v T) (mk : Int) (hR : R + (N * (N * 2 + 2) + 2) ≤ 1099511627776) :
  Calls Tryz.prog 32 #[.pointer (some ⟨bk, 0, none⟩), v, .int .i64 mk] w (Kept1 m w bk s (R + (N * (N * 2 + 2) + 2)) d T) := by
 obtain ⟨A, n, c, L, F, hvl⟩ := hv
 obtain rfl := hvl.vl.1
 have HG := Aside0.mk hvl
 have hnN := hvl.le
 have hmono : ∀ i, i ≤ n → i * (N * 2 + 2) ≤ N * (N * 2 + 2) := fun i hi => Nat.mul_le_mul_right _ (Nat.le_trans hi hnN)
 have hN1 : N * (N * 2 + 2) + 2 ≤ (N * (N * 2 + 2) + 2) := by exact Nat.le_refl _
 have hn62 : n ≤ 1099511627776 := (h.sh.vl h.ty hvl.vl).2.2.2.2.2.2.1
 clear hvl
 have c3 := (h.sh.cell (j := 3) (by decide)).trans (by rw [h.v3])
 have f3 := h.sh.frozen 3
 have e1 : wrap64 (d + 1) = d + 1 := by unfold wrap64; omega
 have HA := Aside0.mk (h.deep (d + 1))
 have HF := Aside0.mk (h.sh.frScal 3 (.int .i64 (d + 1)))
 clear h
 go_enter Tryz.func32, Tryz.ntmps32
 go_upto_region 1 with (fail)
 refine img.wp_world (p := fun wx => Aside0 (All m wx bk s (upd V 3 (.int .i64 (d + 1))) X R (d + 1)) ∧ Aside0 (Fr m w wx)) ⟨HA, HF⟩ ?_
 clear HA HF c3 f3
 rintro w0 ⟨HA, HF⟩
 obtain ⟨V0, hV0⟩ : ∃ V0, V0 = upd V 3 (.int .i64 (d + 1)) := ⟨_, rfl⟩
 rw [← hV0] at HA
 clear hV0
 go_wp2_with (fail)
 go_loopw [6] (fun i wr => ∃ k : Nat, k ≤ n ∧ i = .int .i64 k ∧ ∃ s1 V1 X1, Aside0 (All m wr bk s1 V1 X1 (R + k * (N * 2 + 2)) (d + 1) ∧ Fr m w wr ∧ ∀ k' g, s k' = some g → ¬ (∃ j, j < k ∧ F j k') → s1 k' = some g)) (fun i _ => n - (intOf i).toNat)
 case atStart => exact ⟨0, Nat.zero_le _, rfl, s, V0, X, ⟨by rw [Nat.zero_mul]; exact HA.out, HF.out, fun _ _ e _ => e⟩⟩
 case round =>
  clear HA HF
  obtain ⟨k, hk, rfl, s1, V1, X1, HX⟩ := hrel
  have HV1 := Aside0.mk (HG.out.vl.far (s' := s1) (fun k' g e1 e2 => HX.out.2.2 k' g e1 (fun ⟨j, hj, hf⟩ => HG.out.fo j k' (by omega) hf e2)))
  by_cases hlt : k < n
  ·obtain ⟨x, hx⟩ : ∃ x, L[k]? = some x := ⟨_, List.getElem?_eq_getElem (by have := HG.out.ln; omega)⟩
   obtain ⟨b, rfl⟩ : ∃ b, A = some ⟨b, 0, none⟩ := by
    rcases HV1.out.2 with ⟨-, e, -⟩ | ⟨b, e, -⟩
    ·omega
    ·exact ⟨b, e⟩
   have hc := (HX.out.1.sh.vl HX.out.1.ty HV1.out).2.2.2.2.1 _ rfl k x hx
   rw [add_eq] at hc
   have HE := (HG.out.el k x hx).far (s' := s1) (fun k' g e1 e2 => HX.out.2.2 k' g e1 (fun ⟨j, hj, hf⟩ => HG.out.ne j k k' hj hlt hf e2))
   have HK := Aside0.mk (fun mk' => keep_intLists HX.out.1 ⟨by omega, by omega⟩ x HE mk' (by have := hmono (k + 1) (by omega); rw [Nat.add_mul] at this; omega))
   clear HE HV1
   go_wp2_with (fail)
   refine (HK.out _).mono ?_
   rintro en w4 ⟨rfl, hf4, s4, V4, X4, hal, hold⟩
   have HZ : Aside0 (All m w4 bk s4 V4 X4 (R + (k + 1) * (N * 2 + 2)) (d + 1) ∧ Fr m w w4 ∧ ∀ k' g, s k' = some g → ¬ (∃ j, j < k + 1 ∧ F j k') → s4 k' = some g) := ⟨by rw [Nat.add_mul, Nat.one_mul, ← Nat.add_assoc]; exact hal, HX.out.2.1.then_ hf4, fun k' g e1 e2 => hold k' g (HX.out.2.2 k' g e1 (fun ⟨j, hj, hf⟩ => e2 ⟨j, by omega, hf⟩)) (fun hf => e2 ⟨k, by omega, hf⟩)⟩
   clear hal hold hf4 HK HX hc hx
   go_wp2_with (fail)
   go_roundw
   case rel => exact ⟨k + 1, by omega, by go_num, s4, V4, X4, HZ⟩
   case measure => simp [intOf]; omega
  ·obtain rfl : n = k := by omega
   obtain ⟨w0, rfl⟩ : ∃ w0, w0 = wr := ⟨_, rfl⟩
   obtain ⟨s0, V0, X0, R0, hR0', HA, HV, HF, HS0⟩ : ∃ s0 V0 X0 R0, R0 = R + n * (N * 2 + 2) ∧ Aside0 (All m w0 bk s0 V0 X0 R0 (d + 1)) ∧ Aside0 (Vl s0 11 0 (.slice A n c) A n c L) ∧ Aside0 (Fr m w w0) ∧ Aside0 (∀ k' g, s k' = some g → ¬ (∃ j, j < n ∧ F j k') → s0 k' = some g) := ⟨s1, V1, X1, _, rfl, ⟨HX.out.1⟩, HV1, ⟨HX.out.2.1⟩, ⟨HX.out.2.2⟩⟩
   have hR0 : R0 + 2 ≤ 1099511627776 := by have := hmono n (Nat.le_refl _); omega
   have hR1 : R0 + 2 ≤ R + (N * (N * 2 + 2) + 2) := by have := hmono n (Nat.le_refl _); omega
   clear HX HV1
   have HTY := Aside0.mk HA.out.ty
   have HL := Aside0.mk (HA.out.sh.vl HTY.out HV.out).2
   have HLN : Aside0 ((X0 103).length ≤ 1099511627776 ∧ (X0 104).length ≤ 1099511627776 ∧ (X0 105).length ≤ 1099511627776 ∧ (X0 106).length ≤ 1099511627776 ∧ (X0 107).length ≤ 1099511627776 ∧ (X0 108).length ≤ 1099511627776 ∧ (X0 109).length ≤ 1099511627776 ∧ (X0 110).length ≤ 1099511627776) := ⟨HA.out.lens (q := 11) (by simp [live])⟩
   obtain ⟨A15, c15, h15⟩ := HA.out.sh.slice (j := 105) (by decide)
   have k15 := (HA.out.sh.cell (j := 105) (by decide)).trans (congrArg some h15)
   have l15 : ((X0 105).length + 1) * 24 ≤ 140737488355328 := by have := HLN.out; omega
   go_wp2_with (at_builtin; refine push_row HA.out.sh 105 (by decide) (by decide) (by decide) rfl (.tmp 37) (.tmp 39) 36 (.slice none 0 0) 24 rfl Tryz.underlying36 i34 rfl (by decide) h15.symm rfl rfl l15 ?_; intro A1 c1 w1 V1 X1 HP zc zf)
   refine img.wp_world (p := fun wx => Aside0 (Sh m wx bk s0 V1 X1 ∧ Fr m w wx)) ⟨HP.out.2.2.1, HF.out.then_ HP.out.2.2.2⟩ ?_
   have HX1 := Aside0.mk HP.out.2.1
   have HV1 := Aside0.mk HP.out.1
   clear HP zc zf k15 l15 h15
   rintro w2 HS
   go_cut [] from 43 to 54 (fun wx => ∃ k1 c1 v2 V2 X2, Aside0 (s0 k1 = none ∧ V2 = upd V1 106 v2 ∧ X2 = upd X1 106 (X1 106 ++ [.slice (some ⟨k1, 0, none⟩) n c1]) ∧ Sh m wx bk (upd s0 k1 (some ⟨11, 3, n, c1, L⟩)) V2 X2 ∧ Fr m w wx))
   case first =>
    obtain ⟨A16, c16, h16⟩ := HS.out.1.slice (j := 106) (by decide)
    have l16 : ((X1 106).length + 1) * 24 ≤ 140737488355328 := by rw [HX1.out, upd_ne _ _ (by decide)]; have := HLN.out; omega
    have k16 := (HS.out.1.cell (j := 106) (by decide)).trans (congrArg some h16)
    have k16a := ((HS.out.1.still (grown_alloc w2 (.cells #[] 26))).cell (j := 106) (by decide)).trans (congrArg some h16)
    have HC := Aside0.mk (((HS.out.1.still (grown_drew w2)).still (grown_alloc w2.drew (.cells #[] 26))).vl HTY.out HV.out).2.2.2.2.1
    go_region_law (first
     | (refine copy_step (by rfl) (.tmp 48) (.tmp 49) 34 26 (.slice none 0 0) 1 24 (by rfl) Tryz.underlying34 i26 rfl (by decide) w2.heap.size (by rfl) A n c (by rfl) (World.ownsRow_made w2.drew #[] 0 (Nat.zero_le _) (by decide) rfl) L HL.out.1 HL.out.2.1 HL.out.2.2.1 HC.out HL.out.2.2.2.2.1 HL.out.2.2.2.2.2.1 (by have := HL.out.2.2.2.2.2.1; omega) ?_; intro k1 c1 w3 HC3; have HS3 := Aside0.mk (copied (q := 11) HS.out.1 rfl HC3.out); have k16c := (HS3.out.2.1.cell (j := 106) (by decide)).trans (congrArg some h16); have k16e := ((HS3.out.2.1.still (grown_alloc w3 (.cells #[.slice (some ⟨k1, 0, none⟩) n c1] 34))).cell (j := 106) (by decide)).trans (congrArg some h16))
     | (refine push_step HS3.out.2.1 106 (by decide) (by decide) (by decide) (by rfl) (.tmp 47) (.tmp 51) 36 (.slice none 0 0) 24 (by rfl) Tryz.underlying36 i34 rfl (by decide) h16.symm (by rfl) rfl l16 ?_; intro A2 c2 w4 V2 X2 HP zc zf))
    all_goals
     go_wp2_with (fail)
     go_meet
     exact ⟨k1, c1, _, V2, X2, ⟨HS3.out.1, HP.out.1, HP.out.2.1, HP.out.2.2.1, (HS.out.2.then_ HS3.out.2.2).then_ HP.out.2.2.2⟩⟩
   case rest =>
    obtain ⟨k1, c1, v2, V2, X2, HS2⟩ := hcut
    clear HS
    obtain ⟨A18, c18, h18⟩ := HS2.out.2.2.2.1.slice (j := 108) (by decide)
    have k18 := (HS2.out.2.2.2.1.cell (j := 108) (by decide)).trans (congrArg some h18)
    have l18 : ((X2 108).length + 1) * 8 ≤ 140737488355328 := by rw [HS2.out.2.2.1, upd_ne _ _ (by decide), HX1.out, upd_ne _ _ (by decide)]; have := HLN.out; omega
    go_wp2_with (at_builtin; refine push_row HS2.out.2.2.2.1 108 (by decide) (by decide) (by decide) rfl (.tmp 59) (.tmp 61) 25 (.int .i64 0) 8 rfl Tryz.underlying25 i3 rfl (by decide) h18.symm rfl rfl l18 ?_; intro A3 c3 w5 V3 X3 HP zc zf)
    refine img.wp_world (p := fun wx => Aside0 (V3 = upd V2 108 (.slice A3 ((X2 108).length + 1) c3) ∧ X3 = upd X2 108 (X2 108 ++ [.int .i64 mk]) ∧ Sh m wx bk (upd s0 k1 (some ⟨11, 3, n, c1, L⟩)) V3 X3 ∧ Fr m w wx)) ⟨HP.out.1, HP.out.2.1, HP.out.2.2.1, HS2.out.2.2.2.2.then_ HP.out.2.2.2⟩ ?_
    clear HP zc zf k18 l18
    rintro w6 HS6
    go_cut [] from 65 to 79 (fun wx => ∃ x v4 V4 X4, Aside0 (V4 = upd V3 109 v4 ∧ X4 = upd X3 109 (X3 109 ++ [.int .i64 x]) ∧ Sh m wx bk (upd s0 k1 (some ⟨11, 3, n, c1, L⟩)) V4 X4 ∧ Fr m w wx))
    case first =>
     obtain ⟨A19, c19, h19⟩ := HS6.out.2.2.1.slice (j := 109) (by decide)
     have l19 : ((X3 109).length + 1) * 8 ≤ 140737488355328 := by rw [HS6.out.2.1, upd_ne _ _ (by decide), HS2.out.2.2.1, upd_ne _ _ (by decide), HX1.out, upd_ne _ _ (by decide)]; have := HLN.out; omega
     have k19 := (HS6.out.2.2.1.cell (j := 109) (by decide)).trans (congrArg some h19)
     obtain ⟨n0, hn0⟩ := HA.out.v8 11 (by decide)
     obtain ⟨t0, ht0⟩ := HA.out.v2
     have k21 : w6.cell? ⟨bk, 111, none⟩ = some (.int .i64 n0) := (HS6.out.2.2.1.cell (j := 111) (by decide)).trans (by rw [HS6.out.1, upd_ne _ _ (by decide), HS2.out.2.1, upd_ne _ _ (by decide), HV1.out, upd_ne _ _ (by decide)]; exact congrArg some hn0)
     have k0 : w6.cell? ⟨bk, 0, none⟩ = some (.bool false) := (HS6.out.2.2.1.cell (j := 0) (by decide)).trans (by rw [HS6.out.1, upd_ne _ _ (by decide), HS2.out.2.1, upd_ne _ _ (by decide), HV1.out, upd_ne _ _ (by decide)]; exact congrArg some HA.out.v0)
     have k2 : w6.cell? ⟨bk, 2, none⟩ = some (.int .i64 t0) := (HS6.out.2.2.1.cell (j := 2) (by decide)).trans (by rw [HS6.out.1, upd_ne _ _ (by decide), HS2.out.2.1, upd_ne _ _ (by decide), HV1.out, upd_ne _ _ (by decide)]; exact congrArg some ht0)
     have HD := Aside0.mk (due_any bk n0 t0 w6.drew k0 k2)
     clear k0 k2 hn0 ht0
     go_region_law (first
      | (refine push_step (HS6.out.2.2.1.still (grown_drew w6)) 109 (by decide) (by decide) (by decide) (by rfl) (.tmp 69) (.tmp 76) 25 (.int .i64 0) 8 (by rfl) Tryz.underlying25 i3 rfl (by decide) h19.symm (by rfl) rfl l19 ?_; intro A4 c4 w8 V4 X4 HP zc zf)
      | (go_simp; refine HD.out.mono ?_; rintro en w7 ⟨⟨x, rfl⟩, rfl⟩; have k19e := ((HS6.out.2.2.1.still (grown_alloc w6 (.cells #[.int .i64 x] 3))).cell (j := 109) (by decide)).trans (congrArg some h19)))
     all_goals
      go_wp2_with (fail)
      go_meet
      exact ⟨x, _, V4, X4, ⟨HP.out.1, HP.out.2.1, HP.out.2.2.1, HS6.out.2.2.2.then_ ((HS6.out.2.2.1.frS (grown_drew w6)).then_ HP.out.2.2.2)⟩⟩
    case rest =>
     obtain ⟨x, v4, V4, X4, HS7⟩ := hcut
     obtain ⟨n0, hn0⟩ := HA.out.v8 11 (by decide)
     have k21 : wc.cell? ⟨bk, 111, none⟩ = some (.int .i64 n0) := (HS7.out.2.2.1.cell (j := 111) (by decide)).trans (by rw [HS7.out.1, upd_ne _ _ (by decide), HS6.out.1, upd_ne _ _ (by decide), HS2.out.2.1, upd_ne _ _ (by decide), HV1.out, upd_ne _ _ (by decide)]; exact congrArg some hn0)
     have f21 := HS7.out.2.2.1.frozen 111
     have HAL := Aside0.mk (HA.out.keep (q := 11) (by simp [live]) HV.out HS2.out.1 (HS7.out.2.2.1.scal (j := 111) (v := .int .i64 (wrap64 (n0 + 1))) (by decide) rfl) (chain4 HX1.out HS2.out.2.2.1 HS6.out.2.1 HS7.out.2.1 (by decide) (by decide) (by decide))
      ((((((Rest.refl _ _ _).row HV1.out HX1.out (by decide)).row HS2.out.2.1 HS2.out.2.2.1 (by decide)).row HS6.out.1 HS6.out.2.1 (by decide)).row HS7.out.1 HS7.out.2.1 (by decide)).scal (by decide) _) ⟨_, upd_same _ _ _⟩ hR0)
     have HFR := Aside0.mk (HS7.out.2.2.2.then_ (HS7.out.2.2.1.frScal 111 (.int .i64 (wrap64 (n0 + 1)))))
     clear HS2 HS6 HS7 HA HX1 HV1 HV HL HLN HTY
     obtain ⟨s2, hal, hold⟩ := HAL.out
     have HD := Aside0.mk (done_deep hal ⟨by omega, by omega⟩)
     have HO := Aside0.mk hold
     clear hal hold HAL
     go_wp2_with (fail)
     refine HD.out.mono ?_
     rintro en w9 ⟨rfl, ⟨V5, hal⟩, hfr⟩
     have HAL := Aside0.mk hal
     have HF9 := Aside0.mk (HFR.out.then_ hfr)
     clear hal hfr
     go_wp2_with (fail)
     go_end0
     refine ⟨rfl, HF9.out, s2, V5, X4, ?_, fun k_ g e1 e2 => HO.out k_ g (HS0.out k_ g e1 (fun ⟨j, hj, hf⟩ => e2 (HG.out.ft j k_ hj hf))) (fun e => e2 (HG.out.own k_ e))⟩
     have := HAL.out.room hR1 (by omega)
     rwa [show d + 1 - 1 = d by omega] at this
set_option maxHeartbeats 8000000 in
set_option maxRecDepth 100000 in
theorem keep_objects {T : Nat → Prop} {N : Nat} (h : All m w bk s V X R d) (hd : 1 ≤ d ∧ d ≤ 800) (v : Value) (hv : Gv12 N s v T) (mk : Int) (hR : R + (N * 4 + 2) ≤ 1099511627776) :
  Calls Tryz.prog 31 #[.pointer (some ⟨bk, 0, none⟩), v, .int .i64 mk] w (Kept1 m w bk s (R + (N * 4 + 2)) d T) := by
 obtain ⟨A, n, c, L, F, G, hvl⟩ := hv
 obtain rfl := hvl.vl.1
 have HG := Aside0.mk hvl
 have hnN := hvl.le
 have hmono : ∀ i, i ≤ n → i * 4 ≤ N * 4 := fun i hi => Nat.mul_le_mul_right _ (Nat.le_trans hi hnN)
 have hN1 : N * 4 + 2 ≤ (N * 4 + 2) := by omega
 have hn62 : n ≤ 1099511627776 := (h.sh.vl h.ty hvl.vl).2.2.2.2.2.2.1
 clear hvl
 have c3 := (h.sh.cell (j := 3) (by decide)).trans (by rw [h.v3])
 have f3 := h.sh.frozen 3
 have e1 : wrap64 (d + 1) = d + 1 := by unfold wrap64; omega
 have HA := Aside0.mk (h.deep (d + 1))
 have HF := Aside0.mk (h.sh.frScal 3 (.int .i64 (d + 1)))
 clear h
 go_enter Tryz.func31, Tryz.ntmps31
 go_upto_region 1 with (fail)
 refine img.wp_world (p := fun wx => Aside0 (All m wx bk s (upd V 3 (.int .i64 (d + 1))) X R (d + 1)) ∧ Aside0 (Fr m w wx)) ⟨HA, HF⟩ ?_
 clear HA HF c3 f3
 rintro w0 ⟨HA, HF⟩
 obtain ⟨V0, hV0⟩ : ∃ V0, V0 = upd V 3 (.int .i64 (d + 1)) := ⟨_, rfl⟩
 rw [← hV0] at HA
 clear hV0
 go_wp2_with (fail)
 go_loopw [6] (fun i wr => ∃ k : Nat, k ≤ n ∧ i = .int .i64 k ∧ ∃ s1 V1 X1, Aside0 (All m wr bk s1 V1 X1 (R + k * 4) (d + 1) ∧ Fr m w wr ∧ ∀ k' g, s k' = some g → ¬ (∃ j, j < k ∧ (F j k' ∨ G j k')) → s1 k' = some g)) (fun i _ => n - (intOf i).toNat)
 case atStart => exact ⟨0, Nat.zero_le _, rfl, s, V0, X, ⟨by rw [Nat.zero_mul]; exact HA.out, HF.out, fun _ _ e _ => e⟩⟩
 case round =>
  clear HA HF
  obtain ⟨k, hk, rfl, s1, V1, X1, HX⟩ := hrel
  have HV1 := Aside0.mk (HG.out.vl.far (s' := s1) (fun k' g e1 e2 => HX.out.2.2 k' g e1 (fun ⟨j, hj, hf⟩ => HG.out.fo j k' (by omega) hf e2)))
  by_cases hlt : k < n
  ·obtain ⟨p, r, hp, hr, gp, gr⟩ := HG.out.el k hlt
   obtain ⟨b, rfl⟩ : ∃ b, A = some ⟨b, 0, none⟩ := by
    rcases HV1.out.2 with ⟨-, e, -⟩ | ⟨b, e, -⟩
    ·omega
    ·exact ⟨b, e⟩
   have hc := (HX.out.1.sh.vl HX.out.1.ty HV1.out).2.2.2.2.1 _ rfl _ p hp
   rw [add_eq] at hc
   have HE := gp.far (s' := s1) (fun k' g e1 e2 => HX.out.2.2 k' g e1 (fun ⟨j, hj, hf⟩ => hf.elim (fun hf => HG.out.nf j k k' hj hlt hf e2) (fun hf => HG.out.fg k j k' hlt (by omega) e2 hf)))
   have HR1 := Aside0.mk (gr.far (s' := s1) (fun k' g e1 e2 => HX.out.2.2 k' g e1 (fun ⟨j, hj, hf⟩ => hf.elim (fun hf => HG.out.fg j k k' (by omega) hlt hf e2) (fun hf => HG.out.ng j k k' hj hlt hf e2))))
   have HK := Aside0.mk (fun mk' => keep_ints HX.out.1 ⟨by omega, by omega⟩ p HE mk' (by have := hmono (k + 1) (by omega); omega))
   have HRR := Aside0.mk hr
   clear HE gp gr hr
   go_wp2_with (fail)
   refine (HK.out _).mono ?_
   rintro en w4 ⟨rfl, hf4, s4, V4, X4, hal, hold⟩
   have HV4 := Aside0.mk (HV1.out.far (s' := s4) (fun k' g e1 e2 => hold k' g e1 (fun hf => HG.out.fo k k' hlt (.inl hf) e2)))
   have hc4 := (hal.sh.vl hal.ty HV4.out).2.2.2.2.1 _ rfl _ r HRR.out
   rw [add_eq] at hc4
   have HE4 := HR1.out.far (s' := s4) (fun k' g e1 e2 => hold k' g e1 (fun hf => HG.out.fg k k k' hlt hlt hf e2))
   have HK4 := Aside0.mk (fun mk' => keep_words hal ⟨by omega, by omega⟩ r HE4 mk' (by have := hmono (k + 1) (by omega); omega))
   have HO4 := Aside0.mk (And.intro hf4 hold)
   clear hal hold hf4 HK hc HE4 HR1 hp
   go_wp2_with (fail)
   refine (HK4.out _).mono ?_
   rintro en w5 ⟨rfl, hf5, s5, V5, X5, hal, hold⟩
   have HZ : Aside0 (All m w5 bk s5 V5 X5 (R + (k + 1) * 4) (d + 1) ∧ Fr m w w5 ∧ ∀ k' g, s k' = some g → ¬ (∃ j, j < k + 1 ∧ (F j k' ∨ G j k')) → s5 k' = some g) := ⟨by rw [Nat.add_mul, Nat.one_mul, ← Nat.add_assoc]; exact hal, (HX.out.2.1.then_ HO4.out.1).then_ hf5, fun k' g e1 e2 => hold k' g (HO4.out.2 k' g (HX.out.2.2 k' g e1 (fun ⟨j, hj, hf⟩ => e2 ⟨j, by omega, hf⟩)) (fun hf => e2 ⟨k, by omega, .inl hf⟩)) (fun hf => e2 ⟨k, by omega, .inr hf⟩)⟩
   clear hal hold hf5 HK4 HX hc4 HRR HO4 HV1 HV4
   go_wp2_with (fail)
   go_roundw
   case rel => exact ⟨k + 1, by omega, by go_num, s5, V5, X5, HZ⟩
   case measure => simp [intOf]; omega
  ·obtain rfl : n = k := by omega
   obtain ⟨w0, rfl⟩ : ∃ w0, w0 = wr := ⟨_, rfl⟩
   obtain ⟨s0, V0, X0, R0, hR0', HA, HV, HF, HS0⟩ : ∃ s0 V0 X0 R0, R0 = R + n * 4 ∧ Aside0 (All m w0 bk s0 V0 X0 R0 (d + 1)) ∧ Aside0 (Vl s0 12 0 (.slice A n c) A n c L) ∧ Aside0 (Fr m w w0) ∧ Aside0 (∀ k' g, s k' = some g → ¬ (∃ j, j < n ∧ (F j k' ∨ G j k')) → s0 k' = some g) := ⟨s1, V1, X1, _, rfl, ⟨HX.out.1⟩, HV1, ⟨HX.out.2.1⟩, ⟨HX.out.2.2⟩⟩
   have hR0 : R0 + 2 ≤ 1099511627776 := by have := hmono n (Nat.le_refl _); omega
   have hR1 : R0 + 2 ≤ R + (N * 4 + 2) := by have := hmono n (Nat.le_refl _); omega
   clear HX HV1
   have HTY := Aside0.mk HA.out.ty
   have HL := Aside0.mk (HA.out.sh.vl HTY.out HV.out).2
   have HLN : Aside0 ((X0 112).length ≤ 1099511627776 ∧ (X0 113).length ≤ 1099511627776 ∧ (X0 114).length ≤ 1099511627776 ∧ (X0 115).length ≤ 1099511627776 ∧ (X0 116).length ≤ 1099511627776 ∧ (X0 117).length ≤ 1099511627776 ∧ (X0 118).length ≤ 1099511627776 ∧ (X0 119).length ≤ 1099511627776) := ⟨HA.out.lens (q := 12) (by simp [live])⟩
   obtain ⟨A15, c15, h15⟩ := HA.out.sh.slice (j := 114) (by decide)
   have k15 := (HA.out.sh.cell (j := 114) (by decide)).trans (congrArg some h15)
   have l15 : ((X0 114).length + 1) * 24 ≤ 140737488355328 := by have := HLN.out; omega
   go_wp2_with (at_builtin; refine push_row HA.out.sh 114 (by decide) (by decide) (by decide) rfl (.tmp 47) (.tmp 49) 37 (.slice none 0 0) 24 rfl Tryz.underlying37 i41 rfl (by decide) h15.symm rfl rfl l15 ?_; intro A1 c1 w1 V1 X1 HP zc zf)
   refine img.wp_world (p := fun wx => Aside0 (Sh m wx bk s0 V1 X1 ∧ Fr m w wx)) ⟨HP.out.2.2.1, HF.out.then_ HP.out.2.2.2⟩ ?_
   have HX1 := Aside0.mk HP.out.2.1
   have HV1 := Aside0.mk HP.out.1
   clear HP zc zf k15 l15 h15
   rintro w2 HS
   go_cut [] from 53 to 64 (fun wx => ∃ k1 c1 v2 V2 X2, Aside0 (s0 k1 = none ∧ V2 = upd V1 115 v2 ∧ X2 = upd X1 115 (X1 115 ++ [.slice (some ⟨k1, 0, none⟩) n c1]) ∧ Sh m wx bk (upd s0 k1 (some ⟨12, 3, n, c1, L⟩)) V2 X2 ∧ Fr m w wx))
   case first =>
    obtain ⟨A16, c16, h16⟩ := HS.out.1.slice (j := 115) (by decide)
    have l16 : ((X1 115).length + 1) * 24 ≤ 140737488355328 := by rw [HX1.out, upd_ne _ _ (by decide)]; have := HLN.out; omega
    have k16 := (HS.out.1.cell (j := 115) (by decide)).trans (congrArg some h16)
    have k16a := ((HS.out.1.still (grown_alloc w2 (.cells #[] 66))).cell (j := 115) (by decide)).trans (congrArg some h16)
    have HC := Aside0.mk (((HS.out.1.still (grown_drew w2)).still (grown_alloc w2.drew (.cells #[] 66))).vl HTY.out HV.out).2.2.2.2.1
    go_region_law (first
     | (refine copy_step (by rfl) (.tmp 58) (.tmp 59) 41 66 (.agg #[.int .u64 0, .int .i64 0, .int .i64 0, .slice none 0 0, .slice none 0 0]) 5 72 (by rfl) Tryz.underlying41 i66 rfl (by decide) w2.heap.size (by rfl) A n c (by rfl) (World.ownsRow_made w2.drew #[] 0 (Nat.zero_le _) (by decide) rfl) L HL.out.1 HL.out.2.1 HL.out.2.2.1 HC.out HL.out.2.2.2.2.1 HL.out.2.2.2.2.2.1 (by have := HL.out.2.2.2.2.2.1; omega) ?_; intro k1 c1 w3 HC3; have HS3 := Aside0.mk (copied (q := 12) HS.out.1 rfl HC3.out); have k16c := (HS3.out.2.1.cell (j := 115) (by decide)).trans (congrArg some h16); have k16e := ((HS3.out.2.1.still (grown_alloc w3 (.cells #[.slice (some ⟨k1, 0, none⟩) n c1] 41))).cell (j := 115) (by decide)).trans (congrArg some h16))
     | (refine push_step HS3.out.2.1 115 (by decide) (by decide) (by decide) (by rfl) (.tmp 57) (.tmp 61) 37 (.slice none 0 0) 24 (by rfl) Tryz.underlying37 i41 rfl (by decide) h16.symm (by rfl) rfl l16 ?_; intro A2 c2 w4 V2 X2 HP zc zf))
    all_goals
     go_wp2_with (fail)
     go_meet
     exact ⟨k1, c1, _, V2, X2, ⟨HS3.out.1, HP.out.1, HP.out.2.1, HP.out.2.2.1, (HS.out.2.then_ HS3.out.2.2).then_ HP.out.2.2.2⟩⟩
   case rest =>
    obtain ⟨k1, c1, v2, V2, X2, HS2⟩ := hcut
    clear HS
    obtain ⟨A18, c18, h18⟩ := HS2.out.2.2.2.1.slice (j := 117) (by decide)
    have k18 := (HS2.out.2.2.2.1.cell (j := 117) (by decide)).trans (congrArg some h18)
    have l18 : ((X2 117).length + 1) * 8 ≤ 140737488355328 := by rw [HS2.out.2.2.1, upd_ne _ _ (by decide), HX1.out, upd_ne _ _ (by decide)]; have := HLN.out; omega
    go_wp2_with (at_builtin; refine push_row HS2.out.2.2.2.1 117 (by decide) (by decide) (by decide) rfl (.tmp 69) (.tmp 71) 25 (.int .i64 0) 8 rfl Tryz.underlying25 i3 rfl (by decide) h18.symm rfl rfl l18 ?_; intro A3 c3 w5 V3 X3 HP zc zf)
    refine img.wp_world (p := fun wx => Aside0 (V3 = upd V2 117 (.slice A3 ((X2 117).length + 1) c3) ∧ X3 = upd X2 117 (X2 117 ++ [.int .i64 mk]) ∧ Sh m wx bk (upd s0 k1 (some ⟨12, 3, n, c1, L⟩)) V3 X3 ∧ Fr m w wx)) ⟨HP.out.1, HP.out.2.1, HP.out.2.2.1, HS2.out.2.2.2.2.then_ HP.out.2.2.2⟩ ?_
    clear HP zc zf k18 l18
    rintro w6 HS6
    go_cut [] from 75 to 89 (fun wx => ∃ x v4 V4 X4, Aside0 (V4 = upd V3 118 v4 ∧ X4 = upd X3 118 (X3 118 ++ [.int .i64 x]) ∧ Sh m wx bk (upd s0 k1 (some ⟨12, 3, n, c1, L⟩)) V4 X4 ∧ Fr m w wx))
    case first =>
     obtain ⟨A19, c19, h19⟩ := HS6.out.2.2.1.slice (j := 118) (by decide)
     have l19 : ((X3 118).length + 1) * 8 ≤ 140737488355328 := by rw [HS6.out.2.1, upd_ne _ _ (by decide), HS2.out.2.2.1, upd_ne _ _ (by decide), HX1.out, upd_ne _ _ (by decide)]; have := HLN.out; omega
     have k19 := (HS6.out.2.2.1.cell (j := 118) (by decide)).trans (congrArg some h19)
     obtain ⟨n0, hn0⟩ := HA.out.v8 12 (by decide)
     obtain ⟨t0, ht0⟩ := HA.out.v2
     have k21 : w6.cell? ⟨bk, 120, none⟩ = some (.int .i64 n0) := (HS6.out.2.2.1.cell (j := 120) (by decide)).trans (by rw [HS6.out.1, upd_ne _ _ (by decide), HS2.out.2.1, upd_ne _ _ (by decide), HV1.out, upd_ne _ _ (by decide)]; exact congrArg some hn0)
     have k0 : w6.cell? ⟨bk, 0, none⟩ = some (.bool false) := (HS6.out.2.2.1.cell (j := 0) (by decide)).trans (by rw [HS6.out.1, upd_ne _ _ (by decide), HS2.out.2.1, upd_ne _ _ (by decide), HV1.out, upd_ne _ _ (by decide)]; exact congrArg some HA.out.v0)
     have k2 : w6.cell? ⟨bk, 2, none⟩ = some (.int .i64 t0) := (HS6.out.2.2.1.cell (j := 2) (by decide)).trans (by rw [HS6.out.1, upd_ne _ _ (by decide), HS2.out.2.1, upd_ne _ _ (by decide), HV1.out, upd_ne _ _ (by decide)]; exact congrArg some ht0)
     have HD := Aside0.mk (due_any bk n0 t0 w6.drew k0 k2)
     clear k0 k2 hn0 ht0
     go_region_law (first
      | (refine push_step (HS6.out.2.2.1.still (grown_drew w6)) 118 (by decide) (by decide) (by decide) (by rfl) (.tmp 79) (.tmp 86) 25 (.int .i64 0) 8 (by rfl) Tryz.underlying25 i3 rfl (by decide) h19.symm (by rfl) rfl l19 ?_; intro A4 c4 w8 V4 X4 HP zc zf)
      | (go_simp; refine HD.out.mono ?_; rintro en w7 ⟨⟨x, rfl⟩, rfl⟩; have k19e := ((HS6.out.2.2.1.still (grown_alloc w6 (.cells #[.int .i64 x] 3))).cell (j := 118) (by decide)).trans (congrArg some h19)))
     all_goals
      go_wp2_with (fail)
      go_meet
      exact ⟨x, _, V4, X4, ⟨HP.out.1, HP.out.2.1, HP.out.2.2.1, HS6.out.2.2.2.then_ ((HS6.out.2.2.1.frS (grown_drew w6)).then_ HP.out.2.2.2)⟩⟩
    case rest =>
     obtain ⟨x, v4, V4, X4, HS7⟩ := hcut
     obtain ⟨n0, hn0⟩ := HA.out.v8 12 (by decide)
     have k21 : wc.cell? ⟨bk, 120, none⟩ = some (.int .i64 n0) := (HS7.out.2.2.1.cell (j := 120) (by decide)).trans (by rw [HS7.out.1, upd_ne _ _ (by decide), HS6.out.1, upd_ne _ _ (by decide), HS2.out.2.1, upd_ne _ _ (by decide), HV1.out, upd_ne _ _ (by decide)]; exact congrArg some hn0)
     have f21 := HS7.out.2.2.1.frozen 120
     have HAL := Aside0.mk (HA.out.keep (q := 12) (by simp [live]) HV.out HS2.out.1 (HS7.out.2.2.1.scal (j := 120) (v := .int .i64 (wrap64 (n0 + 1))) (by decide) rfl) (chain4 HX1.out HS2.out.2.2.1 HS6.out.2.1 HS7.out.2.1 (by decide) (by decide) (by decide))
      ((((((Rest.refl _ _ _).row HV1.out HX1.out (by decide)).row HS2.out.2.1 HS2.out.2.2.1 (by decide)).row HS6.out.1 HS6.out.2.1 (by decide)).row HS7.out.1 HS7.out.2.1 (by decide)).scal (by decide) _) ⟨_, upd_same _ _ _⟩ hR0)
     have HFR := Aside0.mk (HS7.out.2.2.2.then_ (HS7.out.2.2.1.frScal 120 (.int .i64 (wrap64 (n0 + 1)))))
     clear HS2 HS6 HS7 HA HX1 HV1 HV HL HLN HTY
     obtain ⟨s2, hal, hold⟩ := HAL.out
     have HD := Aside0.mk (done_deep hal ⟨by omega, by omega⟩)
     have HO := Aside0.mk hold
     clear hal hold HAL
     go_wp2_with (fail)
     refine HD.out.mono ?_
     rintro en w9 ⟨rfl, ⟨V5, hal⟩, hfr⟩
     have HAL := Aside0.mk hal
     have HF9 := Aside0.mk (HFR.out.then_ hfr)
     clear hal hfr
     go_wp2_with (fail)
     go_end0
     refine ⟨rfl, HF9.out, s2, V5, X4, ?_, fun k_ g e1 e2 => HO.out k_ g (HS0.out k_ g e1 (fun ⟨j, hj, hf⟩ => e2 (HG.out.ft j k_ hj hf))) (fun e => e2 (HG.out.own k_ e))⟩
     have := HAL.out.room hR1 (by omega)
     rwa [show d + 1 - 1 = d by omega] at this
end
end Go.Proofs.YtihjjkoddphmiaaGreatDoor.bk
