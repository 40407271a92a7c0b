/-
  The walks of (*Book).Bytes and Graph, from outside.
-/
import Derived.Test.YtihjjkoddphmiaaGreatDoorNBkU
namespace Go.Proofs.YtihjjkoddphmiaaGreatDoor.bk
open Go.RowKit Go.Proofs.YtihjjkoddphmiaaGreatDoorW.PrintWords Go.Proofs.YtihjjkoddphmiaaGreatDoorW.PrintLast Go.Proofs.YtihjjkoddphmiaaGreatDoorW.PrintMore Go.Proofs.YtihjjkoddphmiaaGreatDoor.PImageApart
set_option linter.unusedVariables false
set_option linter.unusedSimpArgs false
section
variable {m m2 : Nat → Prop} {w : World} {bk R : Nat} {s : Nat → Option Bl} {V : Nat → Value} {X : Nat → List Value} {d : Int}
theorem All.re {w1 : World} (h : All m w bk s V X R d) (hg : w.grownBy w1 none) (hm : ∀ k, m k → k < w.heap.size → m2 k) (hu : ∀ k, w1.heap.size ≤ k → m2 k) : All m2 w1 bk s V X R d := by
 have h1 := h.still hg
 exact ⟨⟨h1.sh.blk, h1.sh.row, h1.sh.lt, h1.sh.dis, h1.sh.off, h1.sh.fit, hm _ h.sh.mb h.sh.blt, fun j k e => hm _ (h.sh.mv j k e) (h.sh.lt j k e), fun k g e => hm _ (h.sh.ms k g e) (h.sh.slt e), hu⟩, h.ty, h.ks, h.dd, h.v0, h.v1, h.v2, h.v3, h.v8, h.rb⟩
theorem Fr.mono {w' : World} (h : Fr m w w') (hm : ∀ k, m k → m2 k) : Fr m2 w w' := ⟨h.os, h.tape, h.output, h.kept.mono hm⟩
set_option maxHeartbeats 8000000 in
set_option maxRecDepth 100000 in
theorem keep_bytes {T : Nat → Prop} (h : All m w bk s V X R 0)  (v : Value) (hv : Gv 0 s v T) (mk : Int) (hR : R + 2 ≤ 1099511627776) :
  Calls Tryz.prog 13 #[.pointer (some ⟨bk, 0, none⟩), v, .int .i64 mk] w (Done m w bk (R + 2) 0) := by
 obtain ⟨A, n, c, L, hvl⟩ := hv.1.vl
 obtain rfl := hvl.1
 have HV := Aside0.mk hvl
 clear hv hvl
 have c3 := (h.sh.cell (j := 3) (by decide)).trans (by rw [h.v3])
 have f3 := h.sh.frozen 3
 have e1 : wrap64 (0 + 1) = 1 := by unfold wrap64; omega
 have e1b : wrap64 1 = 1 := by unfold wrap64; omega
 have HA := Aside0.mk (h.deep 1)
 have HF := Aside0.mk (h.sh.frScal 3 (.int .i64 1))
 clear h
 go_enter Tryz.func13, Tryz.ntmps13
 go_upto_region 1 with (fail)
 refine img.wp_world (p := fun wx => Aside0 (All m wx bk s (upd V 3 (.int .i64 1)) X R 1) ∧ Aside0 (Fr m w wx)) ⟨HA, HF⟩ ?_
 clear HA HF c3 f3
 rintro w0 ⟨HA, HF⟩
 obtain ⟨V0, hV0⟩ : ∃ V0, V0 = upd V 3 (.int .i64 1) := ⟨_, rfl⟩
 rw [← hV0] at HA
 clear hV0
 obtain ⟨s0, X0, R0, hs0, hX0, hR0', HA, HV⟩ : ∃ s0 X0 R0, s0 = s ∧ X0 = X ∧ R0 = R ∧ Aside0 (All m w0 bk s0 V0 X0 R0 1) ∧ Aside0 (Vl s0 0 0 (.slice A n c) A n c L) := ⟨s, X, R, rfl, rfl, rfl, HA, HV⟩
 have HS0 := Aside0.mk hs0
 have hR0 : R0 + 2 ≤ 1099511627776 := by omega
 clear hs0 hX0
 have HTY := Aside0.mk HA.out.ty
 have HL := Aside0.mk (HA.out.sh.vl HTY.out HV.out).2
 have HLN : Aside0 ((X0 4).length ≤ 1099511627776 ∧ (X0 5).length ≤ 1099511627776 ∧ (X0 6).length ≤ 1099511627776 ∧ (X0 7).length ≤ 1099511627776 ∧ (X0 8).length ≤ 1099511627776 ∧ (X0 9).length ≤ 1099511627776 ∧ (X0 10).length ≤ 1099511627776 ∧ (X0 11).length ≤ 1099511627776) := ⟨HA.out.lens (q := 0) (by simp [live])⟩
 obtain ⟨A15, c15, h15⟩ := HA.out.sh.slice (j := 6) (by decide)
 have k15 := (HA.out.sh.cell (j := 6) (by decide)).trans (congrArg some h15)
 have l15 : ((X0 6).length + 1) * 24 ≤ 140737488355328 := by have := HLN.out; omega
 go_wp2_with (at_builtin; refine push_row HA.out.sh 6 (by decide) (by decide) (by decide) rfl (.tmp 17) (.tmp 19) 24 (.slice none 0 0) 24 rfl Tryz.underlying24 i40 rfl (by decide) h15.symm rfl rfl l15 ?_; intro A1 c1 w1 V1 X1 HP zc zf)
 refine img.wp_world (p := fun wx => Aside0 (Sh m wx bk s0 V1 X1 ∧ Fr m w wx)) ⟨HP.out.2.2.1, HF.out.then_ HP.out.2.2.2⟩ ?_
 have HX1 := Aside0.mk HP.out.2.1
 have HV1 := Aside0.mk HP.out.1
 clear HP zc zf k15 l15 h15
 rintro w2 HS
 go_cut [] from 23 to 34 (fun wx => ∃ k1 c1 v2 V2 X2, Aside0 (s0 k1 = none ∧ V2 = upd V1 7 v2 ∧ X2 = upd X1 7 (X1 7 ++ [.slice (some ⟨k1, 0, none⟩) n c1]) ∧ Sh m wx bk (upd s0 k1 (some ⟨0, 3, n, c1, L⟩)) V2 X2 ∧ Fr m w wx))
 case first =>
  obtain ⟨A16, c16, h16⟩ := HS.out.1.slice (j := 7) (by decide)
  have l16 : ((X1 7).length + 1) * 24 ≤ 140737488355328 := by rw [HX1.out, upd_ne _ _ (by decide)]; have := HLN.out; omega
  have k16 := (HS.out.1.cell (j := 7) (by decide)).trans (congrArg some h16)
  have k16a := ((HS.out.1.still (grown_alloc w2 (.cells #[] 5))).cell (j := 7) (by decide)).trans (congrArg some h16)
  have HC := Aside0.mk (((HS.out.1.still (grown_drew w2)).still (grown_alloc w2.drew (.cells #[] 5))).vl HTY.out HV.out).2.2.2.2.1
  go_region_law (first
   | (refine copy_step (by rfl) (.tmp 28) (.tmp 29) 40 5 (.int .u8 0) 1 1 (by rfl) Tryz.underlying40 i5 rfl (by decide) w2.heap.size (by rfl) A n c (by rfl) (World.ownsRow_made w2.drew #[] 0 (Nat.zero_le _) (by decide) rfl) L HL.out.1 HL.out.2.1 HL.out.2.2.1 HC.out HL.out.2.2.2.2.1 HL.out.2.2.2.2.2.1 (by have := HL.out.2.2.2.2.2.1; omega) ?_; intro k1 c1 w3 HC3; have HS3 := Aside0.mk (copied (q := 0) HS.out.1 rfl HC3.out); have k16c := (HS3.out.2.1.cell (j := 7) (by decide)).trans (congrArg some h16); have k16e := ((HS3.out.2.1.still (grown_alloc w3 (.cells #[.slice (some ⟨k1, 0, none⟩) n c1] 40))).cell (j := 7) (by decide)).trans (congrArg some h16))
   | (refine push_step HS3.out.2.1 7 (by decide) (by decide) (by decide) (by rfl) (.tmp 27) (.tmp 31) 24 (.slice none 0 0) 24 (by rfl) Tryz.underlying24 i40 rfl (by decide) h16.symm (by rfl) rfl l16 ?_; intro A2 c2 w4 V2 X2 HP zc zf))
  all_goals
   go_wp2_with (fail)
   go_meet
   exact ⟨k1, c1, _, V2, X2, ⟨HS3.out.1, HP.out.1, HP.out.2.1, HP.out.2.2.1, (HS.out.2.then_ HS3.out.2.2).then_ HP.out.2.2.2⟩⟩
 case rest =>
  obtain ⟨k1, c1, v2, V2, X2, HS2⟩ := hcut
  clear HS
  obtain ⟨A18, c18, h18⟩ := HS2.out.2.2.2.1.slice (j := 9) (by decide)
  have k18 := (HS2.out.2.2.2.1.cell (j := 9) (by decide)).trans (congrArg some h18)
  have l18 : ((X2 9).length + 1) * 8 ≤ 140737488355328 := by rw [HS2.out.2.2.1, upd_ne _ _ (by decide), HX1.out, upd_ne _ _ (by decide)]; have := HLN.out; omega
  go_wp2_with (at_builtin; refine push_row HS2.out.2.2.2.1 9 (by decide) (by decide) (by decide) rfl (.tmp 39) (.tmp 41) 25 (.int .i64 0) 8 rfl Tryz.underlying25 i3 rfl (by decide) h18.symm rfl rfl l18 ?_; intro A3 c3 w5 V3 X3 HP zc zf)
  refine img.wp_world (p := fun wx => Aside0 (V3 = upd V2 9 (.slice A3 ((X2 9).length + 1) c3) ∧ X3 = upd X2 9 (X2 9 ++ [.int .i64 mk]) ∧ Sh m wx bk (upd s0 k1 (some ⟨0, 3, n, c1, L⟩)) V3 X3 ∧ Fr m w wx)) ⟨HP.out.1, HP.out.2.1, HP.out.2.2.1, HS2.out.2.2.2.2.then_ HP.out.2.2.2⟩ ?_
  clear HP zc zf k18 l18
  rintro w6 HS6
  go_cut [] from 45 to 59 (fun wx => ∃ x v4 V4 X4, Aside0 (V4 = upd V3 10 v4 ∧ X4 = upd X3 10 (X3 10 ++ [.int .i64 x]) ∧ Sh m wx bk (upd s0 k1 (some ⟨0, 3, n, c1, L⟩)) V4 X4 ∧ Fr m w wx))
  case first =>
   obtain ⟨A19, c19, h19⟩ := HS6.out.2.2.1.slice (j := 10) (by decide)
   have l19 : ((X3 10).length + 1) * 8 ≤ 140737488355328 := by rw [HS6.out.2.1, upd_ne _ _ (by decide), HS2.out.2.2.1, upd_ne _ _ (by decide), HX1.out, upd_ne _ _ (by decide)]; have := HLN.out; omega
   have k19 := (HS6.out.2.2.1.cell (j := 10) (by decide)).trans (congrArg some h19)
   obtain ⟨n0, hn0⟩ := HA.out.v8 0 (by decide)
   obtain ⟨t0, ht0⟩ := HA.out.v2
   have k21 : w6.cell? ⟨bk, 12, none⟩ = some (.int .i64 n0) := (HS6.out.2.2.1.cell (j := 12) (by decide)).trans (by rw [HS6.out.1, upd_ne _ _ (by decide), HS2.out.2.1, upd_ne _ _ (by decide), HV1.out, upd_ne _ _ (by decide)]; exact congrArg some hn0)
   have k0 : w6.cell? ⟨bk, 0, none⟩ = some (.bool false) := (HS6.out.2.2.1.cell (j := 0) (by decide)).trans (by rw [HS6.out.1, upd_ne _ _ (by decide), HS2.out.2.1, upd_ne _ _ (by decide), HV1.out, upd_ne _ _ (by decide)]; exact congrArg some HA.out.v0)
   have k2 : w6.cell? ⟨bk, 2, none⟩ = some (.int .i64 t0) := (HS6.out.2.2.1.cell (j := 2) (by decide)).trans (by rw [HS6.out.1, upd_ne _ _ (by decide), HS2.out.2.1, upd_ne _ _ (by decide), HV1.out, upd_ne _ _ (by decide)]; exact congrArg some ht0)
   have HD := Aside0.mk (due_any bk n0 t0 w6.drew k0 k2)
   clear k0 k2 hn0 ht0
   go_region_law (first
    | (refine push_step (HS6.out.2.2.1.still (grown_drew w6)) 10 (by decide) (by decide) (by decide) (by rfl) (.tmp 49) (.tmp 56) 25 (.int .i64 0) 8 (by rfl) Tryz.underlying25 i3 rfl (by decide) h19.symm (by rfl) rfl l19 ?_; intro A4 c4 w8 V4 X4 HP zc zf)
    | (go_simp; refine HD.out.mono ?_; rintro en w7 ⟨⟨x, rfl⟩, rfl⟩; have k19e := ((HS6.out.2.2.1.still (grown_alloc w6 (.cells #[.int .i64 x] 3))).cell (j := 10) (by decide)).trans (congrArg some h19)))
   all_goals
    go_wp2_with (fail)
    go_meet
    exact ⟨x, _, V4, X4, ⟨HP.out.1, HP.out.2.1, HP.out.2.2.1, HS6.out.2.2.2.then_ ((HS6.out.2.2.1.frS (grown_drew w6)).then_ HP.out.2.2.2)⟩⟩
  case rest =>
   obtain ⟨x, v4, V4, X4, HS7⟩ := hcut
   obtain ⟨n0, hn0⟩ := HA.out.v8 0 (by decide)
   have k21 : wc.cell? ⟨bk, 12, none⟩ = some (.int .i64 n0) := (HS7.out.2.2.1.cell (j := 12) (by decide)).trans (by rw [HS7.out.1, upd_ne _ _ (by decide), HS6.out.1, upd_ne _ _ (by decide), HS2.out.2.1, upd_ne _ _ (by decide), HV1.out, upd_ne _ _ (by decide)]; exact congrArg some hn0)
   have f21 := HS7.out.2.2.1.frozen 12
   have HAL := Aside0.mk (HA.out.keep (q := 0) (by simp [live]) HV.out HS2.out.1 (HS7.out.2.2.1.scal (j := 12) (v := .int .i64 (wrap64 (n0 + 1))) (by decide) rfl) (chain4 HX1.out HS2.out.2.2.1 HS6.out.2.1 HS7.out.2.1 (by decide) (by decide) (by decide))
    ((((((Rest.refl _ _ _).row HV1.out HX1.out (by decide)).row HS2.out.2.1 HS2.out.2.2.1 (by decide)).row HS6.out.1 HS6.out.2.1 (by decide)).row HS7.out.1 HS7.out.2.1 (by decide)).scal (by decide) _) ⟨_, upd_same _ _ _⟩ hR0)
   have HFR := Aside0.mk (HS7.out.2.2.2.then_ (HS7.out.2.2.1.frScal 12 (.int .i64 (wrap64 (n0 + 1)))))
   clear HS2 HS6 HS7 HA HX1 HV1 HV HL HLN HTY
   obtain ⟨s2, hal, hold⟩ := HAL.out
   subst hR0'
   have HD := Aside0.mk (done_top hal)
   clear hal hold HAL
   go_wp2_with (fail)
   refine HD.out.mono ?_
   rintro en w9 ⟨rfl, hfr, s3, V5, X5, hal⟩
   have HAL := Aside0.mk hal
   have HF9 := Aside0.mk (HFR.out.then_ hfr)
   clear hal hfr
   go_wp2_with (fail)
   go_end0
   exact ⟨rfl, HF9.out, s3, V5, X5, HAL.out⟩
def S6k (w : World) (b : Nat) (v0 v1 v2 v3 v4 : Value) : Prop := w.cell? ⟨b, 0, none⟩ = some v0 ∧ w.cell? ⟨b, 1, none⟩ = some v1 ∧ w.cell? ⟨b, 2, none⟩ = some v2 ∧ w.cell? ⟨b, 3, none⟩ = some v3 ∧ w.cell? ⟨b, 4, none⟩ = some v4
/-- A graph's lists that are handed over: no two share a block. -/
structure GvG (N : Nat) (s : Nat → Option Bl) (v0 v1 v2 v3 v4 : Value) (T : Nat → Nat → Prop) : Prop where
 g0 : Gv12 N s v0 (T 0)
 g1 : Gv11 N s v1 (T 1)
 g2 : Gv 1 s v2 (T 2)
 g3 : Gv 1 s v3 (T 3)
 g4 : Gv 1 s v4 (T 4)
 ne : ∀ i j k, i < j → T i k → ¬ T j k
set_option maxHeartbeats 8000000 in
set_option maxRecDepth 100000 in
theorem book_graph {N : Nat} {T : Nat → Nat → Prop} (h : All m w bk s V X R 0) (A0 A1 A2 A3 A4 : Option Addr) (n0 n1 n2 n3 n4 c0 c1 c2 c3 c4 : Nat) (nx : Int) (hg : GvG N s (.slice A0 n0 c0) (.slice A1 n1 c1) (.slice A2 n2 c2) (.slice A3 n3 c3) (.slice A4 n4 c4) T) (mk : Int)
  (hR : R + ((N * 4 + 2) + (N * (N * 2 + 2) + 2) + 6) ≤ 1099511627776) :
  Calls Tryz.prog 9 #[.pointer (some ⟨bk, 0, none⟩), .agg #[.slice A0 n0 c0, .slice A1 n1 c1, .slice A2 n2 c2, .slice A3 n3 c3, .slice A4 n4 c4, .int .u64 nx], .int .i64 mk] w (Done m w bk (R + ((N * 4 + 2) + (N * (N * 2 + 2) + 2) + 6)) 0) := by
 obtain ⟨wa, hwa⟩ : ∃ wa, wa = w.alloc (.cells #[.slice A0 n0 c0, .slice A1 n1 c1, .slice A2 n2 c2, .slice A3 n3 c3, .slice A4 n4 c4, .int .u64 nx] 44) := ⟨_, rfl⟩
 have hsz : wa.heap.size = w.heap.size + 1 := by rw [hwa]; simp
 have hga : w.grownBy wa none := by rw [hwa]; exact grown_alloc _ _
 obtain ⟨m', hm'⟩ : ∃ m' : Nat → Prop, m' = fun k => m k ∧ k ≠ w.heap.size := ⟨_, rfl⟩
 have hup := h.sh.up
 have hm1 : ∀ k, m' k → m k := fun k hk => by rw [hm'] at hk; exact hk.1
 have hmb : ¬ m' w.heap.size := fun hk => by rw [hm'] at hk; exact hk.2 rfl
 have HA := Aside0.mk (h.re hga (m2 := m') (fun k hk hl => by rw [hm']; exact ⟨hk, by omega⟩) (fun k hk => by rw [hm']; exact ⟨hup k (by omega), by omega⟩))
 have HBX : Aside0 (wa.heap[w.heap.size]? = some (.cells #[.slice A0 n0 c0, .slice A1 n1 c1, .slice A2 n2 c2, .slice A3 n3 c3, .slice A4 n4 c4, .int .u64 nx] 44 (0, 0))) := ⟨by rw [hwa]; exact heap_alloc_new _ _⟩
 have HUP := Aside0.mk (And.intro hup (And.intro hm1 (And.intro hmb (And.intro hsz (h.sh.frS hga)))))
 have HG := Aside0.mk hg
 have HWA := Aside0.mk hwa
 clear h hg hup hm1 hmb hsz hga hm' hwa
 have c3 := (HA.out.sh.cell (j := 3) (by decide)).trans (by rw [HA.out.v3])
 have f3 := HA.out.sh.frozen 3
 have e1 : wrap64 (0 + 1) = 1 := by unfold wrap64; omega
 have e1b : wrap64 1 = 1 := by unfold wrap64; omega
 go_enter Tryz.func9, Tryz.ntmps9
 go_upto_region 1 with (fail)
 rw [← HWA.out]
 have HA1 := Aside0.mk (HA.out.deep 1)
 have HF1 := Aside0.mk (HA.out.sh.frScal 3 (.int .i64 1))
 go_upto_region 2 with (fail)
 refine img.wp_world (p := fun wx => Aside0 (All m' wx bk s (upd V 3 (.int .i64 1)) X R 1) ∧ Aside0 (Fr m' wa wx)) ⟨HA1, HF1⟩ ?_
 clear HA1 HF1 c3 f3 HA HWA
 rintro w1 ⟨HA, HF⟩
 have HBK : Aside0 (∀ wx, Fr m' wa wx → S6k wx w.heap.size (.slice A0 n0 c0) (.slice A1 n1 c1) (.slice A2 n2 c2) (.slice A3 n3 c3) (.slice A4 n4 c4)) := ⟨fun wx hf => by
  have := (hf.kept.2 w.heap.size (by have := HUP.out.2.2.2.1; omega) HUP.out.2.2.1).trans HBX.out
  exact ⟨(blk_cell this 0).trans rfl, (blk_cell this 1).trans rfl, (blk_cell this 2).trans rfl, (blk_cell this 3).trans rfl, (blk_cell this 4).trans rfl⟩⟩
 obtain ⟨b0, b1, b2, b3, b4⟩ := HBK.out _ HF.out
 have HC := Aside0.mk (fun mk' => keep_objects HA.out ⟨by decide, by decide⟩ _ HG.out.g0 mk' (by omega))
 go_wp2_with (fail)
 refine (HC.out _).mono ?_
 clear HC HA b0 b1 b2 b3 b4
 rintro en w2 ⟨rfl, hf, s2, V2, X2, hal, hold⟩
 have HF := Aside0.mk (HF.out.then_ hf)
 have HA := Aside0.mk hal
 have HO := Aside0.mk hold
 clear hf hal hold
 obtain ⟨b0, b1, b2, b3, b4⟩ := HBK.out _ HF.out
 have HC := Aside0.mk (fun mk' => keep_frames HA.out ⟨by decide, by decide⟩ _ (HG.out.g1.far (fun k g e1 e2 => HO.out k g e1 (fun e3 => HG.out.ne 0 1 k (by decide) e3 e2))) mk' (by omega))
 go_wp2_with (fail)
 refine (HC.out _).mono ?_
 clear HC HA b0 b1 b2 b3 b4
 rintro en w3 ⟨rfl, hf, s3, V3, X3, hal, hold⟩
 have HF := Aside0.mk (HF.out.then_ hf)
 have HA := Aside0.mk hal
 have HO3 : Aside0 (∀ k g, s k = some g → ¬ T 0 k → ¬ T 1 k → s3 k = some g) := ⟨fun k g e1 e2 e3 => hold k g (HO.out k g e1 e2) e3⟩
 clear hf hal hold HO
 obtain ⟨b0, b1, b2, b3, b4⟩ := HBK.out _ HF.out
 have HC := Aside0.mk (fun mk' => keep_ints HA.out ⟨by decide, by decide⟩ _ (HG.out.g2.far (fun k g e1 e2 => HO3.out k g e1 (fun e3 => HG.out.ne 0 2 k (by decide) e3 e2) (fun e3 => HG.out.ne 1 2 k (by decide) e3 e2))) mk' (by omega))
 go_wp2_with (fail)
 refine (HC.out _).mono ?_
 clear HC HA b0 b1 b2 b3 b4
 rintro en w4 ⟨rfl, hf, s4, V4, X4, hal, hold⟩
 have HF := Aside0.mk (HF.out.then_ hf)
 have HA := Aside0.mk hal
 have HO4 : Aside0 (∀ k g, s k = some g → ¬ T 0 k → ¬ T 1 k → ¬ T 2 k →  s4 k = some g) := ⟨fun k g e1 f0 f1 f2 => hold k g (HO3.out k g e1 f0 f1) f2⟩
 clear hf hal hold HO3
 obtain ⟨b0, b1, b2, b3, b4⟩ := HBK.out _ HF.out
 have HC := Aside0.mk (fun mk' => keep_ints HA.out ⟨by decide, by decide⟩ _ (HG.out.g3.far (fun k g e1 e2 => HO4.out k g e1 (fun e3 => HG.out.ne 0 3 k (by decide) e3 e2) (fun e3 => HG.out.ne 1 3 k (by decide) e3 e2) (fun e3 => HG.out.ne 2 3 k (by decide) e3 e2))) mk' (by omega))
 go_wp2_with (fail)
 refine (HC.out _).mono ?_
 clear HC HA b0 b1 b2 b3 b4
 rintro en w5 ⟨rfl, hf, s5, V5, X5, hal, hold⟩
 have HF := Aside0.mk (HF.out.then_ hf)
 have HA := Aside0.mk hal
 have HO5 : Aside0 (∀ k g, s k = some g → ¬ T 0 k → ¬ T 1 k → ¬ T 2 k → ¬ T 3 k →  s5 k = some g) := ⟨fun k g e1 f0 f1 f2 f3 => hold k g (HO4.out k g e1 f0 f1 f2) f3⟩
 clear hf hal hold HO4
 obtain ⟨b0, b1, b2, b3, b4⟩ := HBK.out _ HF.out
 have HC := Aside0.mk (fun mk' => keep_ints HA.out ⟨by decide, by decide⟩ _ (HG.out.g4.far (fun k g e1 e2 => HO5.out k g e1 (fun e3 => HG.out.ne 0 4 k (by decide) e3 e2) (fun e3 => HG.out.ne 1 4 k (by decide) e3 e2) (fun e3 => HG.out.ne 2 4 k (by decide) e3 e2) (fun e3 => HG.out.ne 3 4 k (by decide) e3 e2))) mk' (by omega))
 go_wp2_with (fail)
 refine (HC.out _).mono ?_
 clear HC HA b0 b1 b2 b3 b4
 rintro en w6 ⟨rfl, hf, s6, V6, X6, hal, hold⟩
 have HF := Aside0.mk (HF.out.then_ hf)
 have HA := Aside0.mk hal
 have HO6 : Aside0 (∀ k g, s k = some g → ¬ T 0 k → ¬ T 1 k → ¬ T 2 k → ¬ T 3 k → ¬ T 4 k →  s6 k = some g) := ⟨fun k g e1 f0 f1 f2 f3 f4 => hold k g (HO5.out k g e1 f0 f1 f2 f3) f4⟩
 clear hf hal hold HO5
 have HD := Aside0.mk (done_top HA.out)
 clear HA HO6
 go_wp2_with (fail)
 refine HD.out.mono ?_
 clear HD
 rintro en w7 ⟨rfl, hf, s7, V7, X7, hal⟩
 have HF := Aside0.mk (HF.out.then_ hf)
 have HA := Aside0.mk hal
 clear hf hal
 go_wp2_with (fail)
 go_end0
 refine ⟨rfl, HUP.out.2.2.2.2.then_ (HF.out.mono HUP.out.2.1), s7, V7, X7, ?_⟩
 have h := (HA.out.re (grown_refl _ _) (m2 := m) (fun k hk _ => HUP.out.2.1 k hk) (fun k hk => HUP.out.1 k (by have := HF.out.kept.1; have := HUP.out.2.2.2.1; omega)))
 exact h.room (by omega) hR
end
end Go.Proofs.YtihjjkoddphmiaaGreatDoor.bk
