/-
  The world of the reference's text.object: its text, its result, its object.
-/
import Derived.Test.YtihjjkoddphmiaaGreatDoorNRefTc
import Derived.Test.YtihjjkoddphmiaaGreatDoorNRefRq
namespace Go.Proofs.YtihjjkoddphmiaaGreatDoor.img
open Go.RowKit Go.Proofs.YtihjjkoddphmiaaGreatDoorW.PrintWords Go.Proofs.YtihjjkoddphmiaaGreatDoorW.PrintLast Go.Proofs.YtihjjkoddphmiaaGreatDoorW.PrintMore Go.Proofs.YtihjjkoddphmiaaGreatDoor.PImageApart
set_option linter.unusedVariables false
set_option linter.unusedSimpArgs false

section
variable {γ : Type} {b : List Int} {F : Res γ} {a e pl : Int} {w0 w : World} {g : Nat}
theorem keep_set {g j : Nat} {v : Value} (w : World) : KeepBut w (w.setCell ⟨g, j, none⟩ v) g none := ⟨by simp [World.setCell], fun i hi hne _ => Below.heap_setCell w ⟨g, j, none⟩ v i hne⟩
set_option maxHeartbeats 4000000 in
set_option maxRecDepth 100000 in
theorem tfault_hand (p c : Int) (hI : IsS69 w0 w g b a e pl) (hB : Below w0.heap.size w0 w) :
  Calls Tryz.prog 15 #[.pointer (some ⟨g, 0, none⟩), .int .i64 p, .int .i64 c] w fun en w' => en = .returned (.tuple #[]) ∧ Ts w0 w g b a (if e = 0 then c else e) (if e = 0 then p else pl) w' := by
 have HI := Aside0.mk hI
 have HB := Aside0.mk hB
 have hge := hI.ge
 obtain ⟨A5, c5, hbk, -, -⟩ := hI
 have t2 := cellS69_2 hbk
 have t3 := cellS69_3 hbk
 have f2 := blk_frozen hbk 2
 have f3 := blk_frozen hbk 3
 clear hbk hB
 by_cases he : e = 0
 ·subst he
  rw [if_pos rfl, if_pos rfl]
  have HE : Aside0 (Ts w0 w g b a c p ((w.setCell ⟨g, 2, none⟩ (.int .i64 c)).setCell ⟨g, 3, none⟩ (.int .i64 p))) := ⟨(HI.out.set_2 c).set_3 p, (HB.out.setCell (p := ⟨g, 2, none⟩) hge _).setCell (p := ⟨g, 3, none⟩) hge _, (keep_set w).trans (keep_set _) (.inl rfl)⟩
  go_enter Tryz.func15, Tryz.ntmps15
  go_wp2
  go_end0
  exact ⟨rfl, HE.out⟩
 ·rw [if_neg he, if_neg he]
  have HE : Aside0 (Ts w0 w g b a e pl w) := ⟨HI.out, HB.out, KeepBut.refl _ _ _⟩
  go_enter Tryz.func15, Tryz.ntmps15
  go_wp2
  go_end0
  exact ⟨rfl, HE.out⟩
theorem tfault_0 (p c : Int) (hI : IsS69 w0 w g b a 0 pl) (hB : Below w0.heap.size w0 w) :
  Calls Tryz.prog 15 #[.pointer (some ⟨g, 0, none⟩), .int .i64 p, .int .i64 c] w fun en w' => en = .returned (.tuple #[]) ∧ Ts w0 w g b a c p w' := by
 have h := tfault_hand p c hI hB
 rw [if_pos rfl, if_pos rfl] at h
 exact h
theorem Ts.drewN {w1 : World} (h : Ts w0 w g b a e pl w1) (n : Nat) : Ts w0 w g b a e pl (w1.drewN n) := ⟨h.tx.drewN n, pw_below_drewN h.bel n, ⟨h.keep.1, h.keep.2⟩⟩
theorem Ts.then_ {w1 w2 : World} {a' e' pl' : Int} (h : Ts w0 w g b a e pl w1) (k : Ts w0 w1 g b a' e' pl' w2) : Ts w0 w g b a' e' pl' w2 := ⟨k.tx, k.bel, h.keep.trans k.keep (.inl rfl)⟩
/-- What word comes to. -/
def WPost (w0 w : World) (g : Nat) (b : List Int) (p : Nat) (pl : Int) (R : Res Nat) (en : Ending) (w' : World) : Prop :=
 match R with
 | .ok n q => en = .returned (.int .u64 n) ∧ Ts w0 w g b q 0 pl w'
 | .bad q c => en = .returned (.int .u64 0) ∧ Ts w0 w g b p c q w'
set_option maxHeartbeats 8000000 in
set_option maxRecDepth 100000 in
theorem tword_raw (hb : Bytes b) (hl : b.length ≤ 1000000) (p : Nat) (hp : p ≤ b.length) (hI : IsS69 w0 w g b p 0 pl) (hB : Below w0.heap.size w0 w) :
  Calls Tryz.prog 52 #[.pointer (some ⟨g, 0, none⟩)] w (WPost w0 w g b p pl (num b any64 p)) := by
 have HT := Aside0.mk (show Ts w0 w g b p 0 pl w from ⟨hI, hB, KeepBut.refl _ _ _⟩)
 have HBY := Aside0.mk hb
 obtain ⟨R, hR⟩ : ∃ R, num b any64 p = R := ⟨_, rfl⟩
 have HR : Aside0 (numAt b any64 p 0 (p + 0) 0 = R) := ⟨hR⟩
 rw [hR]
 obtain ⟨A5, c5, hbk, hge, hC0⟩ := hI
 have HC := Aside0.mk hC0
 have t2 := cellS69_2 hbk
 clear hR hb hB hbk hC0
 go_enter Tryz.func52, Tryz.ntmps52
 go_wp2_with (fail)
 go_loopw [3, 4, 5] (fun u3 u4 u5 wr => ∃ (i n : Nat) (x3 x4 : Int), i ≤ 10 ∧ u3 = .int .u64 x3 ∧ u4 = .int .u64 x4 ∧ u5 = .int .i64 i ∧ Aside0 (numAt b any64 p i (p + i) n = R) ∧ Aside0 (i ≤ 9 → x3 = n ∧ x4 = ((128 ^ i : Nat) : Int) ∧ n < 128 ^ i) ∧ Aside0 (Ts w0 w g b p 0 pl wr)) (fun _ _ i _ => 10 - (intOf i).toNat)
 case atStart => exact ⟨0, 0, 0, 1, by omega, rfl, rfl, rfl, HR, ⟨fun _ => ⟨rfl, rfl, by decide⟩⟩, HT⟩
 case round =>
  clear HR HT t2
  obtain ⟨i, n, x3, x4, hi, rfl, rfl, rfl, HR, HX, HT⟩ := hrel
  obtain ⟨A6, c6, hbk, hge2, hC6⟩ := HT.out.tx
  have t0 := cellS69_0 hbk
  have t1 := cellS69_1 hbk
  have t2 := cellS69_2 hbk
  have t3 := cellS69_3 hbk
  have f1 := blk_frozen hbk 1
  have HC6 := Aside0.mk (Kd.C_below hC6 HT.out.bel)
  clear hbk hC6
  by_cases hlt : i < 10
  ·have p1 : (i : Int) < 10 := by omega
   have hw : IntKind.i64.wrap ((p : Int) + (i : Int)) = ((p + i : Nat) : Int) := by rw [IntKind.wrap_i64]; omega
   have HS := HR.out
   rw [numAt_step (by omega)] at HS
   by_cases hlen : b.length ≤ p + i
   ·have HB1 : Aside0 (R = .bad b.length 160) := ⟨by rw [← HS, if_pos hlen]⟩
    have d1 : decide ((b.length : Int) ≤ ((p + i : Nat) : Int)) = true := decide_eq_true (by omega)
    have HF := Aside0.mk (fun (wx : World) (h : Ts w0 w g b p 0 pl wx) => tfault_0 (b.length : Int) 160 h.tx h.bel)
    clear HS
    go_wp2_with (fail)
    go_quiet (fail)
    go_wp2_with (fail)
    refine (HF.out _ (HT.out.drewN _)).mono ?_
    rintro en w1 ⟨rfl, ts⟩
    have HE := Aside0.mk ((HT.out.drewN _).then_ ts)
    clear ts
    go_wp2_with (fail)
    go_ret
    rw [HB1.out]
    exact ⟨rfl, HE.out⟩
   ·rw [if_neg hlen] at HS
    have d1 : decide ((b.length : Int) ≤ ((p + i : Nat) : Int)) = false := decide_eq_false (by omega)
    have hpl : p + i < b.length := by omega
    obtain ⟨hx, hc⟩ := byte_at HBY.out hpl
    obtain ⟨ad, cs, rfl, hcl, hK, hcc⟩ := Kd.C_get HC6.out 0 ((p + i : Nat) : Int) (by omega) (by omega)
    rw [Int.toNat_natCast] at hK hcc
    have hcell : wr.cell? (ad.add (p + i)) = some (.int .u8 (b.getD (p + i) 0)) := by
     have := hcc 0 (.int .u8 (b.getD (p + i) 0)) (by rw [show cs = _ from hK]; rfl)
     simpa [Kd.int, Kd.scalar] using this
    rw [hx] at hcell
    obtain ⟨c, hcn⟩ : ∃ c, (b.getD (p + i) 0).toNat = c := ⟨_, rfl⟩
    rw [hcn] at hcell hc HS
    have HSA := Aside0.mk HS
    have q1 : (0 : Int) ≤ ((p + i : Nat) : Int) := by omega
    have q2 : ((p + i : Nat) : Int) < (b.length : Int) := by omega
    have hwc : IntKind.u64.wrap (c : Int) = (c : Int) := wrap64u (by omega)
    clear hcl hK hcc hx hcn HS
    by_cases h128 : c < 128
    ·have d2 : decide ((c : Int) < 128) = true := decide_eq_true (by omega)
     by_cases hA : 0 < i ∧ c = 0
     ·have HB1 : Aside0 (R = .bad p 161) := ⟨by rw [← HSA.out, if_pos (.inr hA)]⟩
      obtain ⟨hA1, rfl⟩ := hA
      have d3 : decide ((0 : Int) < (i : Int)) = true := decide_eq_true (by omega)
      have HF := Aside0.mk (fun (wx : World) (h : Ts w0 w g b p 0 pl wx) => tfault_0 (p : Int) 161 h.tx h.bel)
      go_wp2_with (fail)
      go_quiet (fail)
      go_wp2_with (fail)
      go_quiet (fail)
      go_wp2_with (fail)
      refine (HF.out _ (HT.out.drewN _)).mono ?_
      rintro en w1 ⟨rfl, ts⟩
      have HE := Aside0.mk ((HT.out.drewN _).then_ ts)
      clear ts
      go_wp2_with (fail)
      go_ret
      rw [HB1.out]
      exact ⟨rfl, HE.out⟩
     by_cases hB9 : i = 9 ∧ 1 < c
     ·have HB1 : Aside0 (R = .bad p 161) := ⟨by rw [← HSA.out, if_pos (.inl ⟨hB9.1, by omega, h128⟩)]⟩
      obtain ⟨hi9, hB1⟩ := hB9
      have d6 : ((i : Int) == 9) = true := by rw [hi9]; rfl
      have d7 : decide ((0 : Int) < (i : Int)) = true := decide_eq_true (by omega)
      have HI9 := Aside0.mk hi9
      have hi0 : 0 < i := by omega
      clear hi9
      have d4 : ((c : Int) == 0) = false := beq_eq_false_iff_ne.2 (by omega)
      have d5 : decide ((1 : Int) < (c : Int)) = true := decide_eq_true (by omega)
      have HA9 := Aside0.mk hA
      clear hA
      have HF := Aside0.mk (fun (wx : World) (h : Ts w0 w g b p 0 pl wx) => tfault_0 (p : Int) 161 h.tx h.bel)
      go_wp2_with (fail)
      go_quiet (fail)
      go_wp2_with (fail)
      go_quiet (fail)
      go_wp2_with (fail)
      refine (HF.out _ (HT.out.drewN _)).mono ?_
      rintro en w1 ⟨rfl, ts⟩
      have HE := Aside0.mk ((HT.out.drewN _).then_ ts)
      clear ts
      go_wp2_with (fail)
      go_ret
      rw [HB1.out]
      exact ⟨rfl, HE.out⟩
     obtain ⟨rfl, rfl, hn⟩ := HX.out (by omega)
     obtain ⟨P, hP⟩ : ∃ P : Nat, 128 ^ i = P := ⟨_, rfl⟩
     have hpow : (128 ^ i : Nat) ≤ 9223372036854775808 := pow9 (by omega)
     have hfit : n + c * P ≤ 18446744073709551615 := fits64 (by omega) hP (by rw [← hP]; exact hn) h128 (fun h9 => by
      by_cases h : 1 < c
      ·exact absurd ⟨h9, h⟩ hB9
      ·omega)
     have HRO : Aside0 (R = .ok (n + c * P) (p + i + 1)) := ⟨by rw [← HSA.out, if_neg (fun h => h.elim (fun h => hB9 ⟨h.1, by omega⟩) hA), if_pos h128, hP, if_neg (by unfold any64; omega)]⟩
     rw [hP] at hpow hn ⊢
     have e1 : IntKind.u64.wrap ((c : Int) * (P : Int)) = ((c * P : Nat) : Int) := by
      rw [show ((c : Int) * (P : Int)) = ((c * P : Nat) : Int) by simp]
      exact wrap64u (by omega)
     have e2 : IntKind.u64.wrap ((n : Int) + ((c * P : Nat) : Int)) = ((n + c * P : Nat) : Int) := by
      rw [wrap64u (by omega)]
      omega
     have e3 : IntKind.i64.wrap (((p + i : Nat) : Int) + 1) = ((p + i + 1 : Nat) : Int) := by rw [IntKind.wrap_i64]; omega
     have HE := Aside0.mk (fun (m : Nat) => show Ts w0 w g b ((p + i + 1 : Nat) : Int) 0 pl ((wr.drewN m).setCell ⟨g, 1, none⟩ (.int .i64 ((p + i + 1 : Nat) : Int))) from ⟨(HT.out.drewN m).tx.set_1 _, (HT.out.drewN m).bel.setCell (p := ⟨g, 1, none⟩) hge2 _, (HT.out.drewN m).keep.trans (keep_set _) (.inl rfl)⟩)
     generalize c * P = cP at e1 e2 HRO hfit
     clear HX HSA
     by_cases hi0 : 0 < i
     ·have d3 : decide ((0 : Int) < (i : Int)) = true := decide_eq_true (by omega)
      have d4 : ((c : Int) == 0) = false := beq_eq_false_iff_ne.2 (fun h => hA ⟨hi0, by omega⟩)
      by_cases h9 : i = 9
      ·have d6 : ((i : Int) == 9) = true := by rw [h9]; rfl
       have d5 : decide ((1 : Int) < (c : Int)) = false := decide_eq_false (fun h => hB9 ⟨h9, by omega⟩)
       have H9 := Aside0.mk (And.intro h9 (And.intro hA hB9))
       clear h9 hA hB9
       go_wp2_with (fail)
       go_quiet (fail)
       go_wp2_with (fail)
       go_quiet (fail)
       go_wp2_with (fail)
       go_ret
       rw [HRO.out]
       exact ⟨rfl, HE.out _⟩
      ·have d6 : ((i : Int) == 9) = false := beq_eq_false_iff_ne.2 (by omega)
       have H9 := Aside0.mk (And.intro hA hB9)
       clear hA hB9
       go_wp2_with (fail)
       go_quiet (fail)
       go_wp2_with (fail)
       go_quiet (fail)
       go_wp2_with (fail)
       go_ret
       rw [HRO.out]
       exact ⟨rfl, HE.out _⟩
     ·have d3 : decide ((0 : Int) < (i : Int)) = false := decide_eq_false (by omega)
      have d6 : ((i : Int) == 9) = false := beq_eq_false_iff_ne.2 (by omega)
      have H9 := Aside0.mk (And.intro hA hB9)
      clear hA hB9
      go_wp2_with (fail)
      go_quiet (fail)
      go_wp2_with (fail)
      go_quiet (fail)
      go_wp2_with (fail)
      go_ret
      rw [HRO.out]
      exact ⟨rfl, HE.out _⟩
    ·have d2 : decide ((c : Int) < 128) = false := decide_eq_false (by omega)
     have d3 : ¬ (c : Int) < 128 := by omega
     have hew : IntKind.u64.wrap ((c : Int) - 128) = ((c - 128 : Nat) : Int) := by rw [wrap64u (by omega)]; omega
     have HNX : Aside0 (numAt b any64 p (i + 1) (p + (i + 1)) (n + (c % 128) * 128 ^ i) = R) := ⟨by rw [← HSA.out, if_neg (fun h => by omega), if_neg h128]; rfl⟩
     go_wp2_with (fail)
     go_quiet (fail)
     go_wp2_with (fail)
     go_quiet (fail)
     go_wp2_with (fail)
     refine ⟨⟨i + 1, n + (c % 128) * 128 ^ i, _, _, by omega, rfl, rfl, by simp, HNX, ⟨fun h9 => ?_⟩, ⟨HT.out.drewN _⟩⟩, by simp [intOf]; omega⟩
     obtain ⟨rfl, rfl, hn⟩ := HX.out (by omega)
     obtain ⟨P, hP⟩ : ∃ P : Nat, 128 ^ i = P := ⟨_, rfl⟩
     have hc7 : c % 128 = c - 128 := by omega
     rw [Nat.pow_succ, hP, hc7]
     rw [hP] at hn
     obtain ⟨m1, m2⟩ := more64 (c := c - 128) h9 hP hn (by omega)
     have e1 : IntKind.u64.wrap (((c - 128 : Nat) : Int) * (P : Int)) = (((c - 128) * P : Nat) : Int) := by
      rw [show (((c - 128 : Nat) : Int) * (P : Int)) = (((c - 128) * P : Nat) : Int) from (Int.natCast_mul _ _).symm]
      exact wrap64u (by omega)
     rw [e1]
     generalize (c - 128) * P = z at m1 ⊢
     refine ⟨?_, ?_, m1⟩
     ·rw [wrap64u (by omega)]
      omega
     ·rw [wrap64u (by omega)]
      omega
  ·obtain rfl : i = 10 := by omega
   have HB1 : Aside0 (R = .bad p 161) := ⟨by rw [← HR.out, numAt_end (by omega)]⟩
   have HF := Aside0.mk (fun (wx : World) (h : Ts w0 w g b p 0 pl wx) => tfault_0 (p : Int) 161 h.tx h.bel)
   go_wp2_with (fail)
   refine (HF.out _ HT.out).mono ?_
   rintro en w1 ⟨rfl, ts⟩
   have HE := Aside0.mk (HT.out.then_ ts)
   clear ts
   go_wp2_with (fail)
   go_ret
   rw [HB1.out]
   exact ⟨rfl, HE.out⟩
end
end Go.Proofs.YtihjjkoddphmiaaGreatDoor.img
namespace Go.Proofs.YtihjjkoddphmiaaGreatDoor.img
open Go.RowKit Go.Proofs.YtihjjkoddphmiaaGreatDoorW.PrintWords Go.Proofs.YtihjjkoddphmiaaGreatDoorW.PrintLast Go.Proofs.YtihjjkoddphmiaaGreatDoorW.PrintMore Go.Proofs.YtihjjkoddphmiaaGreatDoor.PImageApart
set_option linter.unusedVariables false
set_option linter.unusedSimpArgs false

section
variable {γ : Type} {b : List Int} {F : Res γ} {a e pl : Int} {w0 w : World} {g : Nat}
set_option maxHeartbeats 4000000 in
set_option maxRecDepth 100000 in
theorem tword_dead (he : e ≠ 0) (hI : IsS69 w0 w g b a e pl) (hB : Below w0.heap.size w0 w) :
  Calls Tryz.prog 52 #[.pointer (some ⟨g, 0, none⟩)] w fun en w' => en = .returned (.int .u64 0) ∧ Ts w0 w g b a e pl w' := by
 have HE : Aside0 (Ts w0 w g b a e pl w) := ⟨hI, hB, KeepBut.refl _ _ _⟩
 have hge := hI.ge
 obtain ⟨A5, c5, hbk, -, -⟩ := hI
 have t2 := cellS69_2 hbk
 clear hbk hB
 go_enter Tryz.func52, Tryz.ntmps52
 go_wp2_with (fail)
 go_ret
 exact ⟨rfl, HE.out⟩
theorem tword_hand (hb : Bytes b) (hl : b.length ≤ 1000000) {K : Nat → Nat → Res γ} (hI : IsS69 w0 w g b a e pl) (hB : Below w0.heap.size w0 w) (h : Lv b F (fun p => (num b any64 p).bind K) a e pl) :
  Calls Tryz.prog 52 #[.pointer (some ⟨g, 0, none⟩)] w fun en w' => ∃ (n : Nat) (a' e' pl' : Int), en = .returned (.int .u64 n) ∧ n < 18446744073709551616 ∧ (e' ≠ 0 → n = 0) ∧ (e ≠ 0 → e' ≠ 0) ∧ Lv b F (fun p => K n p) a' e' pl' ∧ Ts w0 w g b a' e' pl' w' := by
 rcases h with ⟨p, rfl, hp, rfl, rfl⟩ | ⟨q, rfl, he, rfl⟩
 ·refine (tword_raw hb hl p hp hI hB).mono ?_
  intro en w1 hw
  cases hn : num b any64 p with
  | ok n q =>
   rw [hn] at hw
   obtain ⟨rfl, ts⟩ := hw
   obtain ⟨hq, hv⟩ := num_pos 10 0 p 0 n q rfl hn
   exact ⟨n, q, 0, pl, rfl, by unfold any64 at hv; omega, fun h => absurd rfl h, fun h => absurd rfl h, .inl ⟨q, rfl, hq, rfl, by show (num b any64 p).bind K = _; rw [hn]; rfl⟩, ts⟩
  | bad q e =>
   rw [hn] at hw
   obtain ⟨rfl, ts⟩ := hw
   exact ⟨0, p, e, q, rfl, by omega, fun _ => rfl, fun h => absurd rfl h, .inr ⟨q, rfl, num_bad 10 0 p 0 q e rfl hn, by show (num b any64 p).bind K = _; rw [hn]; rfl⟩, ts⟩
 ·refine (tword_dead he hI hB).mono ?_
  rintro en w1 ⟨rfl, ts⟩
  exact ⟨0, a, e, q, rfl, by omega, fun _ => rfl, fun h => h, .inr ⟨q, rfl, he, rfl⟩, ts⟩
theorem num_split {K : Nat → Nat → Res γ} (h : Lv b F (fun p => (num b great p).bind K) a e pl) :
  Lv b F (fun p => (num b any64 p).bind fun v q => if great < v then .bad a.toNat 161 else K v q) a e pl ∧ (e = 0 → 0 ≤ a) := by
 rcases h with ⟨p0, rfl, hp0, rfl, rfl⟩ | ⟨q, rfl, he, rfl⟩
 ·refine ⟨.inl ⟨p0, rfl, hp0, rfl, ?_⟩, fun _ => by omega⟩
  show (numAt b great p0 0 p0 0).bind K = (num b any64 p0).bind _
  rw [num_great 10 0 p0 0 rfl]
  show Res.bind (Res.bind (num b any64 p0) _) K = _
  cases num b any64 p0 with
  | bad q e => rfl
  | ok v q =>
   simp only [Res.bind, Int.toNat_natCast]
   by_cases hg : great < v
   ·rw [if_pos hg, if_pos hg]
   ·rw [if_neg hg, if_neg hg]
 ·exact ⟨.inr ⟨q, rfl, he, rfl⟩, fun h => absurd h he⟩
set_option maxHeartbeats 4000000 in
set_option maxRecDepth 100000 in
theorem tnumber_hand (hb : Bytes b) (hl : b.length ≤ 1000000) {K : Nat → Nat → Res γ} (hI : IsS69 w0 w g b a e pl) (hB : Below w0.heap.size w0 w) (h : Lv b F (fun p => (num b great p).bind K) a e pl) :
  Calls Tryz.prog 16 #[.pointer (some ⟨g, 0, none⟩)] w fun en w' => ∃ (n : Nat) (a' e' pl' : Int), en = .returned (.int .u64 n) ∧ n ≤ 4611686018427387905 ∧ (e' ≠ 0 → n = 0) ∧ Lv b F (fun p => K n p) a' e' pl' ∧ Ts w0 w g b a' e' pl' w' := by
 obtain ⟨h1, h2⟩ := num_split h
 have HW := Aside0.mk (tword_hand hb hl hI hB h1)
 have H2 := Aside0.mk h2
 clear h h1 h2
 obtain ⟨A5, c5, hbk, hge, -⟩ := hI
 have t1 := cellS69_1 hbk
 clear hbk hB
 go_enter Tryz.func16, Tryz.ntmps16
 go_wp2_with (fail)
 refine HW.out.mono ?_
 clear HW t1
 rintro en w1 ⟨n, a', e', pl', rfl, hn, hd, hde, hv, ts⟩
 have HT := Aside0.mk ts
 have HD := Aside0.mk hd
 have HDE := Aside0.mk hde
 obtain ⟨A6, c6, hbk, hge2, -⟩ := ts.tx
 have t2 := cellS69_2 hbk
 have HV := Aside0.mk hv
 clear hbk hv hd hde ts
 by_cases he : e' = 0
 ·subst he
  have he0 : e = 0 := Decidable.byContradiction fun h => HDE.out h rfl
  have ha := H2.out he0
  clear HDE HD H2 he0
  by_cases hg : 4611686018427387905 < n
  ·have d1 : decide ((4611686018427387905 : Int) < (n : Int)) = true := decide_eq_true (by omega)
   have HF := Aside0.mk (fun (wx : World) (h : Ts w0 w g b a' 0 pl' wx) => tfault_0 a 161 h.tx h.bel)
   have HL : Aside0 (Lv b F (fun p => K 0 p) a' 161 a) := by
    refine ⟨.inr ⟨a.toNat, by omega, by decide, ?_⟩⟩
    rcases HV.out with ⟨p, -, -, -, hF⟩ | ⟨q, -, he, -⟩
    ·rw [hF]; exact if_pos hg
    ·exact absurd rfl he
   clear HV
   go_wp2_with (fail)
   refine (HF.out _ HT.out).mono ?_
   rintro en w2 ⟨rfl, ts⟩
   have HE := Aside0.mk (HT.out.then_ ts)
   clear ts
   go_wp2_with (fail)
   go_ret
   exact ⟨0, a', 161, a, rfl, by omega, fun _ => rfl, HL.out, HE.out⟩
  ·have d1 : decide ((4611686018427387905 : Int) < (n : Int)) = false := decide_eq_false (by omega)
   have HL : Aside0 (Lv b F (fun p => K n p) a' 0 pl') := by
    refine ⟨.inl ?_⟩
    rcases HV.out with ⟨p, h1, h2, h3, hF⟩ | ⟨q, -, he, -⟩
    ·exact ⟨p, h1, h2, h3, by rw [hF]; exact if_neg hg⟩
    ·exact absurd rfl he
   clear HV
   go_wp2_with (fail)
   go_ret
   exact ⟨n, a', 0, pl', rfl, by omega, fun h => absurd rfl h, HL.out, HT.out⟩
 ·have hn0 := HD.out he
  subst hn0
  have HL : Aside0 (Lv b F (fun p => K 0 p) a' e' pl') := by
   refine ⟨.inr ?_⟩
   rcases HV.out with ⟨p, -, -, h3, -⟩ | h
   ·exact absurd h3 he
   ·exact h
  clear HV HD HDE
  go_wp2_with (fail)
  go_ret
  exact ⟨0, a', e', pl', rfl, by omega, fun _ => rfl, HL.out, HT.out⟩
set_option maxHeartbeats 4000000 in
set_option maxRecDepth 100000 in
theorem tmany_hand (hb : Bytes b) (hl : b.length ≤ 1000000) {K : Nat → Nat → Res γ} (hI : IsS69 w0 w g b a e pl) (hB : Below w0.heap.size w0 w) (h : Lv b F (fun p => (num b great p).bind fun n p => if b.length - p < n then .bad b.length 160 else K n p) a e pl) :
  Calls Tryz.prog 17 #[.pointer (some ⟨g, 0, none⟩)] w fun en w' => ∃ (n : Nat) (a' e' pl' : Int), en = .returned (.int .i64 n) ∧ n ≤ b.length ∧ Lv b F (fun p => K n p) a' e' pl' ∧ Ts w0 w g b a' e' pl' w' := by
 have HW := Aside0.mk (tnumber_hand hb hl hI hB h)
 clear h hI hB hb
 go_enter Tryz.func17, Tryz.ntmps17
 go_wp2_with (fail)
 refine HW.out.mono ?_
 clear HW
 rintro en w1 ⟨n, a', e', pl', rfl, hn, hd, hv, ts⟩
 have HT := Aside0.mk ts
 have HD := Aside0.mk hd
 obtain ⟨A6, c6, hbk, hge2, -⟩ := ts.tx
 have t0 := cellS69_0 hbk
 have t1 := cellS69_1 hbk
 have t2 := cellS69_2 hbk
 have HV := Aside0.mk hv
 clear hbk hv hd ts
 by_cases he : e' = 0
 ·subst he
  clear HD
  obtain ⟨p, rfl, hp, hF⟩ : ∃ p : Nat, a' = p ∧ p ≤ b.length ∧ F = (if b.length - p < n then Res.bad b.length 160 else K n p) := by
   rcases HV.out with ⟨p, h1, h2, h3, hF⟩ | ⟨q, -, he, -⟩
   ·exact ⟨p, h1, h2, hF⟩
   ·exact absurd rfl he
  have ew : IntKind.u64.wrap (IntKind.i64.wrap ((b.length : Int) - (p : Int))) = ((b.length - p : Nat) : Int) := by
   rw [IntKind.wrap_i64, wrap64u (by omega)]
   omega
  clear HV
  by_cases hg : b.length - p < n
  ·have d1 : decide (((b.length - p : Nat) : Int) < (n : Int)) = true := decide_eq_true (by omega)
   have HF := Aside0.mk (fun (wx : World) (h : Ts w0 w g b p 0 pl' wx) => tfault_0 (b.length : Int) 160 h.tx h.bel)
   have HL : Aside0 (Lv b F (fun p => K 0 p) p 160 b.length) := ⟨.inr ⟨b.length, rfl, by decide, by rw [hF]; exact if_pos hg⟩⟩
   clear hF
   go_wp2_with (fail)
   go_quiet (fail)
   go_wp2_with (fail)
   refine (HF.out _ (HT.out.drewN _)).mono ?_
   rintro en w2 ⟨rfl, ts⟩
   have HE := Aside0.mk ((HT.out.drewN _).then_ ts)
   obtain ⟨A7, c7, hbk, -, -⟩ := ts.tx
   have t2' := cellS69_2 hbk
   clear ts hbk t0 t1 t2
   go_wp2_with (fail)
   go_ret
   exact ⟨0, p, 160, b.length, rfl, by omega, HL.out, HE.out⟩
  ·have d1 : decide (((b.length - p : Nat) : Int) < (n : Int)) = false := decide_eq_false (by omega)
   have HL : Aside0 (Lv b F (fun p => K n p) p 0 pl') := ⟨.inl ⟨p, rfl, hp, rfl, by rw [hF]; exact if_neg hg⟩⟩
   have ew2 : IntKind.i64.wrap (n : Int) = (n : Int) := by rw [IntKind.wrap_i64]; omega
   clear hF
   go_wp2_with (fail)
   go_quiet (fail)
   go_wp2_with (fail)
   go_ret
   exact ⟨n, p, 0, pl', rfl, by omega, HL.out, HT.out.drewN _⟩
 ·have hn0 := HD.out he
  subst hn0
  have d1 : (e' == 0) = false := beq_eq_false_iff_ne.2 he
  have HL : Aside0 (Lv b F (fun p => K 0 p) a' e' pl') := by
   refine ⟨.inr ?_⟩
   rcases HV.out with ⟨p, -, -, h3, -⟩ | h
   ·exact absurd h3 he
   ·exact h
  clear HV HD
  go_wp2_with (fail)
  go_quiet (fail)
  go_wp2_with (fail)
  go_ret
  exact ⟨0, a', e', pl', rfl, by omega, HL.out, HT.out.drewN _⟩
end
end Go.Proofs.YtihjjkoddphmiaaGreatDoor.img
namespace Go.Proofs.YtihjjkoddphmiaaGreatDoor.img
open Go.RowKit Go.Proofs.YtihjjkoddphmiaaGreatDoorW.PrintWords Go.Proofs.YtihjjkoddphmiaaGreatDoorW.PrintLast Go.Proofs.YtihjjkoddphmiaaGreatDoorW.PrintMore Go.Proofs.YtihjjkoddphmiaaGreatDoor.PImageApart
set_option linter.unusedVariables false
set_option linter.unusedSimpArgs false

theorem info3i : (Tryz.prog.info? 3).map (fun i => (i.zero, i.size, i.bytes)) = some (some (.int .i64 0), 1, 8) := by kernel_rfl
section
variable {γ : Type} {b : List Int} {F : Res γ} {a e pl : Int} {w0 w : World} {g : Nat}
theorem Ts.grow' {w1 w2 : World} {row : Option Nat} (h : Ts w0 w g b a e pl w1) (hg : w1.grownBy w2 row) (hb : Below w.heap.size w1 w2) (h0 : w0.heap.size ≤ w.heap.size) (ht : IsS69 w0 w2 g b a e pl) : Ts w0 w g b a e pl w2 :=
 ⟨ht, h.bel.trans (hb.mono h0), ⟨Nat.le_trans h.keep.1 hb.size, fun i hi h1 h2 => (hb.block i hi).trans (h.keep.2 i hi h1 h2)⟩⟩
theorem ints_open {more : Int} {K : List Int → Nat → Res γ} {p : Nat} : ((ints b more () p).bind fun y p => K y.1 p) = (num b great p).bind fun n p => if b.length - p < n then .bad b.length 160 else (many (plain b more) n () p).bind fun y p => K y.1 p := by
 simp only [ints, lst]
 cases num b great p with
 | bad q e => rfl
 | ok n q =>
  simp only [Res.bind]
  by_cases hg : b.length - q < n
  ·rw [if_pos hg, if_pos hg]
  ·rw [if_neg hg, if_neg hg]
theorem plain_step {more : Int} {K : List Int → Nat → Res γ} {l : List Int} {d p : Nat} : ((many (plain b more) (d + 1) () p).bind fun y p => K (l ++ y.1) p) = (num b great p).bind fun n p => (many (plain b more) d () p).bind fun y p => K ((l ++ [((n : Int) - more)]) ++ y.1) p := by
 simp only [many, plain, int]
 cases num b great p with
 | bad q e => rfl
 | ok n q =>
  simp only [Res.bind]
  cases many (plain b more) d () q with
  | bad q e => rfl
  | ok y q => simp [Res.bind]
set_option maxHeartbeats 8000000 in
set_option maxRecDepth 100000 in
theorem tints_hand (hb : Bytes b) (hl : b.length ≤ 1000000) (more : Int) (hm : 0 ≤ more ∧ more ≤ 1) {K : List Int → Nat → Res γ} (hI : IsS69 w0 w g b a e pl) (hB : Below w0.heap.size w0 w) (h : Lv b F (fun p => (ints b more () p).bind fun y p => K y.1 p) a e pl) :
  Calls Tryz.prog 19 #[.pointer (some ⟨g, 0, none⟩), .int .i64 more] w fun en w' => ∃ (l : List Int) (v : Value) (a' e' pl' : Int), en = .returned v ∧ l.length ≤ 1000000 ∧ Kd.R (Kd.int .i64) 3 w' w.heap.size (fun _ => True) v l ∧ Lv b F (fun p => K l p) a' e' pl' ∧ Ts w0 w g b a' e' pl' w' := by
 have HBY := Aside0.mk hb
 have HW := Aside0.mk (tmany_hand hb hl hI hB (Lv.imp h (fun p => ints_open)))
 have h0s : w0.heap.size ≤ w.heap.size := below_size hB
 clear h hI hB hb
 go_enter Tryz.func19, Tryz.ntmps19
 go_wp2_with (fail)
 refine HW.out.mono ?_
 clear HW
 rintro en w1 ⟨N, a1, e1, pl1, rfl, hN, hv, ts⟩
 have HT := Aside0.mk ts
 have HV := Aside0.mk hv
 clear hv ts
 go_wp2_with (fail)
 go_loopw [5, 7] (fun u5 u7 wr => ∃ (q : Nat) (a e pl : Int) (l : List Int), u7 = .int .i64 q ∧ q ≤ N ∧ Aside0 (l.length = q) ∧ Aside0 (Ts w0 w g b a e pl wr) ∧ Aside0 ((Kd.int .i64).R 3 wr w.heap.size (fun _ => True) u5 l) ∧ Aside0 (Lv b F (fun p => (many (plain b more) (N - q) () p).bind fun y p => K (l ++ y.1) p) a e pl)) (fun _ q _ => N - (intOf q).toNat)
 case atStart => exact ⟨0, a1, e1, pl1, [], rfl, Nat.zero_le _, ⟨rfl⟩, HT, ⟨Kd.R_nil _ _ _ _ _⟩, HV⟩
 case round =>
  clear HV HT
  obtain ⟨q, a, e, pl, l, rfl, hq, HLQ, HT, HR, HL⟩ := hrel
  have htc : wr.cell? ⟨g, 2, none⟩ = some (.int .i64 e) := by
   obtain ⟨A0, c0, hbk, -, -⟩ := HT.out.tx
   exact cellS69_2 hbk
  have HGE : Aside0 (w0.heap.size ≤ g) := ⟨HT.out.tx.ge⟩
  by_cases hlt : q < N
  ·have p3 : (q : Int) < (N : Int) := by omega
   by_cases he : e = 0
   ·subst he
    have HO := Aside0.mk (tnumber_hand (K := fun n p => (many (plain b more) (N - (q + 1)) () p).bind fun y p => K ((l ++ [((n : Int) - more)]) ++ y.1) p) HBY.out hl HT.out.tx HT.out.bel (Lv.imp HL.out (fun p => by rw [show N - q = (N - (q + 1)) + 1 by omega, plain_step])))
    have hws : w.heap.size ≤ wr.heap.size := HT.out.keep.1
    go_wp2_with (fail)
    refine HO.out.mono ?_
    rintro en w7 ⟨n, a', e', pl', rfl, hn, -, hL, ts⟩
    obtain ⟨Af, cf, rfl⟩ := Kd.R_slice HR.out
    have HT1 := Aside0.mk (HT.out.then_ ts)
    have HR1 := Aside0.mk (row_ts HR.out HT.out.tx ts.keep (by decide))
    have HL1 := Aside0.mk hL
    have hlen : (l.length + 1) * 8 ≤ 140737488355328 := by have := HLQ.out; omega
    have hbase : w.heap.size ≤ w7.heap.size := Nat.le_trans hws ts.keep.1
    have e1 : IntKind.i64.wrap (n : Int) = (n : Int) := by rw [IntKind.wrap_i64]; omega
    have e2 : IntKind.i64.wrap ((n : Int) - more) = (n : Int) - more := by rw [IntKind.wrap_i64]; omega
    clear HO HT HR HL hL ts htc
    go_wp2_with (first | (at_builtin; refine Kd.R_append (Kd.int .i64) (w0 := w7) w.heap.size rfl (.tmp 22) (.tmp 28) 25 3 (.int .i64 0) 8 rfl Tryz.underlying25 info3i rfl (by decide) (by omega) (.slice Af l.length cf) l ((n : Int) - more) [.int .i64 ((n : Int) - more)] (fun _ => True) (fun _ => False) rfl (by first | (go_simp; done) | (go_simp; rfl)) rfl (fun _ hk => hk.elim) (fun _ _ => trivial) HR1.out (Below.refl _ _) hbase hlen ?_; intro v1 w8 ho hb hg hat; obtain ⟨Aw, cw, rfl⟩ := Kd.R_slice ho; have HT2 := Aside0.mk (HT1.out.grow' hg hb h0s (HT1.out.tx.grown hg (IsS69.own_ne HT1.out.tx HR1.out (by decide)))); have HV2 := Aside0.mk ho; clear ho hb hg hat))
    refine ⟨⟨q + 1, a', e', pl', l ++ [((n : Int) - more)], by simp, by omega, ⟨by simp [HLQ.out]⟩, HT2, ⟨by have h := HV2.out; rw [show (l ++ [((n : Int) - more)]).length = l.length + 1 by simp] at h; exact h⟩, HL1⟩, ?_⟩
    simp [intOf]
    omega
   ·go_wp2_with (fail)
    go_ret
    refine ⟨l, _, a, e, pl, rfl, by have := HLQ.out; omega, HR.out, ?_, HT.out⟩
    rcases HL.out with ⟨p, -, -, h, -⟩ | h
    ·exact absurd h he
    ·exact .inr h
  ·have p3 : ¬ (q : Int) < (N : Int) := by omega
   have HL2 : Aside0 (Lv b F (fun p => K l p) a e pl) := ⟨Lv.imp HL.out (fun p => by rw [show N - q = 0 by omega]; simp [many, Res.bind])⟩
   go_wp2_with (fail)
   go_ret
   refine ⟨l, _, rfl, by have := HLQ.out; omega, HR.out, a, e, pl, ?_, HT.out⟩
   exact HL2.out
end
end Go.Proofs.YtihjjkoddphmiaaGreatDoor.img
namespace Go.Proofs.YtihjjkoddphmiaaGreatDoor.img
open Go.RowKit Go.Proofs.YtihjjkoddphmiaaGreatDoorW.PrintWords Go.Proofs.YtihjjkoddphmiaaGreatDoorW.PrintLast Go.Proofs.YtihjjkoddphmiaaGreatDoorW.PrintMore Go.Proofs.YtihjjkoddphmiaaGreatDoor.PImageApart
set_option linter.unusedVariables false
set_option linter.unusedSimpArgs false

structure Oq (w0 w : World) (b : List Int) (g gr go : Nat) (a e pl f0 f1 f2 : Int) (v3 v4 : Value) (P R : List Int) (wr : World) : Prop where
 ts : Ts w0 w g b a e pl wr
 res : wr.heap[gr]? = some (.cells #[.int .u64 0, .int .i64 0, .int .i64 0, .slice none 0 0, .slice none 0 0] 66 (0, 0))
 blk : wr.heap[go]? = some (.cells #[.int .u64 f0, .int .i64 f1, .int .i64 f2, v3, v4] 66 (0, 0))
 le : w0.heap.size ≤ w.heap.size
 ge : w.heap.size ≤ gr
 lt : gr < go
 r3 : (Kd.int .i64).R 3 wr w.heap.size (fun _ => True) v3 P
 r4 : (Kd.int .u64).R 42 wr w.heap.size (fun _ => True) v4 R
section
variable {w0 w wr w2 : World} {b : List Int} {g gr go : Nat} {a e pl f0 f1 f2 : Int} {v3 v4 : Value} {P R : List Int}
theorem row_set62 {α : Type} {d : Kd α} {t : TypeId} {base : Nat} {v : Value} {xs : List α} {cs : Array Value} (h : d.R t wr base (fun _ => True) v xs) (hb : wr.heap[go]? = some (.cells cs 66 (0, 0))) (ht : ∀ q, q ∈ t :: d.E → q ≠ 66) (j : Nat) (u : Value) : d.R t (wr.setCell ⟨go, j, none⟩ u) base (fun _ => True) v xs :=
 Kd.R_mono (Kd.R_far (Kd.R_types h hb ht) (fun k hk => hk.2) u) (fun _ _ => trivial)
theorem Oq.tx {a' e' pl' : Int} (h : Oq w0 w b g gr go a e pl f0 f1 f2 v3 v4 P R wr) (t : Ts w0 wr g b a' e' pl' w2) : Oq w0 w b g gr go a' e' pl' f0 f1 f2 v3 v4 P R w2 := by
 have hne := IsS69.ne_blk h.ts.tx h.blk (by decide)
 have hnr := IsS69.ne_blk h.ts.tx h.res (by decide)
 exact ⟨h.ts.then_ t, t.keep.blk h.res (fun e => hnr e.symm) (by simp), t.keep.blk h.blk (fun e => hne e.symm) (by simp), h.le, h.ge, h.lt, row_ts h.r3 h.ts.tx t.keep (by decide), row_ts h.r4 h.ts.tx t.keep (by decide)⟩
theorem Ts.setFar {cs : Array Value} (h : Ts w0 w g b a e pl wr) (hb : wr.heap[go]? = some (.cells cs 66 (0, 0))) (h0 : w0.heap.size ≤ w.heap.size) (hg : w.heap.size ≤ go) (j : Nat) (u : Value) : Ts w0 w g b a e pl (wr.setCell ⟨go, j, none⟩ u) :=
 ⟨h.tx.far (IsS69.ne_blk h.tx hb (by decide)) _, below_set h.bel (Nat.le_trans h0 hg), ⟨by simpa [World.setCell] using h.keep.1, fun i hi hne hr => (Below.heap_setCell wr ⟨go, j, none⟩ u i (by show i ≠ go; omega)).trans (h.keep.2 i hi hne hr)⟩⟩
theorem Oq.set0 (h : Oq w0 w b g gr go a e pl f0 f1 f2 v3 v4 P R wr) (x : Int) : Oq w0 w b g gr go a e pl x f1 f2 v3 v4 P R (wr.setCell ⟨go, 0, none⟩ (.int .u64 x)) :=
 ⟨h.ts.setFar h.blk h.le (Nat.le_trans h.ge (Nat.le_of_lt h.lt)) _ _, blk_far h.res (by have := h.lt; show gr ≠ go; omega) _, by simpa using blk_set h.blk 0 (.int .u64 x), h.le, h.ge, h.lt, row_set62 h.r3 h.blk (by decide) _ _, row_set62 h.r4 h.blk (by decide) _ _⟩
theorem Oq.set1 (h : Oq w0 w b g gr go a e pl f0 f1 f2 v3 v4 P R wr) (x : Int) : Oq w0 w b g gr go a e pl f0 x f2 v3 v4 P R (wr.setCell ⟨go, 1, none⟩ (.int .i64 x)) :=
 ⟨h.ts.setFar h.blk h.le (Nat.le_trans h.ge (Nat.le_of_lt h.lt)) _ _, blk_far h.res (by have := h.lt; show gr ≠ go; omega) _, by simpa using blk_set h.blk 1 (.int .i64 x), h.le, h.ge, h.lt, row_set62 h.r3 h.blk (by decide) _ _, row_set62 h.r4 h.blk (by decide) _ _⟩
theorem Oq.set2 (h : Oq w0 w b g gr go a e pl f0 f1 f2 v3 v4 P R wr) (x : Int) : Oq w0 w b g gr go a e pl f0 f1 x v3 v4 P R (wr.setCell ⟨go, 2, none⟩ (.int .i64 x)) :=
 ⟨h.ts.setFar h.blk h.le (Nat.le_trans h.ge (Nat.le_of_lt h.lt)) _ _, blk_far h.res (by have := h.lt; show gr ≠ go; omega) _, by simpa using blk_set h.blk 2 (.int .i64 x), h.le, h.ge, h.lt, row_set62 h.r3 h.blk (by decide) _ _, row_set62 h.r4 h.blk (by decide) _ _⟩
theorem Oq.set3 {v : Value} {l : List Int} (h : Oq w0 w b g gr go a e pl f0 f1 f2 v3 v4 P R wr) (hr : (Kd.int .i64).R 3 wr w.heap.size (fun _ => True) v l) : Oq w0 w b g gr go a e pl f0 f1 f2 v v4 l R (wr.setCell ⟨go, 3, none⟩ v) :=
 ⟨h.ts.setFar h.blk h.le (Nat.le_trans h.ge (Nat.le_of_lt h.lt)) _ _, blk_far h.res (by have := h.lt; show gr ≠ go; omega) _, by simpa using blk_set h.blk 3 v, h.le, h.ge, h.lt, row_set62 hr h.blk (by decide) _ _, row_set62 h.r4 h.blk (by decide) _ _⟩
theorem Oq.push4 {v : Value} {x : Int} (h : Oq w0 w b g gr go a e pl f0 f1 f2 v3 v4 P R wr) (hr : (Kd.int .u64).R 42 w2 w.heap.size (fun _ => True) v (R ++ [x])) (hbel : Below w.heap.size wr w2) (hg : wr.grownBy w2 v4.ownBlock) : Oq w0 w b g gr go a e pl f0 f1 f2 v3 v P (R ++ [x]) (w2.setCell ⟨go, 4, none⟩ v) := by
 have hk := blk_grown h.blk hg (Kd.R_ne h.r4 h.blk (by decide))
 have ht := h.ts.tx.grown hg (IsS69.own_ne h.ts.tx h.r4 (by decide))
 have t2 := h.ts.grow' hg hbel h.le ht
 exact ⟨t2.setFar hk h.le (Nat.le_trans h.ge (Nat.le_of_lt h.lt)) _ _, blk_far (blk_grown h.res hg (Kd.R_ne h.r4 h.res (by decide))) (by have := h.lt; show gr ≠ go; omega) _, by simpa using blk_set hk 4 v, h.le, h.ge, h.lt, row_set62 (row_grown h.r3 h.r4 hg (by decide)) hk (by decide) _ _, row_set62 hr hk (by decide) _ _⟩
end
end Go.Proofs.YtihjjkoddphmiaaGreatDoor.img
