/-
  The reference's reader in plain Lean: its text's methods against the reader's plain form.
-/
import Derived.Test.YtihjjkoddphmiaaDoorMRefTxo
import Derived.Test.YtihjjkoddphmiaaDoorMIm5
namespace Go.Proofs.YtihjjkoddphmiaaDoor.img
open Go.RowKit Go.Proofs.YtihjjkoddphmiaaDoorW.PrintWords Go.Proofs.YtihjjkoddphmiaaDoorW.PrintLast Go.Proofs.YtihjjkoddphmiaaDoorW.PrintMore Go.Proofs.YtihjjkoddphmiaaDoor.PImageRound
set_option linter.unusedVariables false
set_option linter.unusedSimpArgs false

/-- The whole reading's result, told from here on; or it has failed. -/
def Lv {γ : Type} (b : List Int) (F : Res γ) (rest : Nat → Res γ) (a e pl : Int) : Prop :=
 (∃ p : Nat, a = p ∧ p ≤ b.length ∧ e = 0 ∧ F = rest p) ∨ (∃ q : Nat, pl = q ∧ e ≠ 0 ∧ F = .bad q e)
theorem wrap64u {x : Int} (h : 0 ≤ x ∧ x < 18446744073709551616) : IntKind.u64.wrap x = x := by rw [IntKind.wrap_u64]; omega
theorem pow9 {i : Nat} (h : i ≤ 9) : (128 : Nat) ^ i ≤ 9223372036854775808 := Nat.le_trans (Nat.pow_le_pow_right (by decide) h) (by decide)
theorem pow8 {i : Nat} (h : i ≤ 8) : (128 : Nat) ^ i ≤ 72057594037927936 := Nat.le_trans (Nat.pow_le_pow_right (by decide) h) (by decide)
theorem fits64 {i n c P : Nat} (hi : i ≤ 9) (hP : 128 ^ i = P) (hn : n < P) (hc : c < 128) (h9 : i = 9 → c ≤ 1) : n + c * P ≤ 18446744073709551615 := by
 by_cases h : i = 9
 ·have h1 : c * P ≤ 1 * P := Nat.mul_le_mul_right _ (h9 h)
  have h2 := pow9 hi
  rw [hP] at h2
  omega
 ·have h1 : c * P ≤ 127 * P := Nat.mul_le_mul_right _ (by omega)
  have h2 := pow8 (i := i) (by omega)
  rw [hP] at h2
  omega
theorem more64 {i n c P : Nat} (hi : i + 1 ≤ 9) (hP : 128 ^ i = P) (hn : n < P) (hc : c < 128) : n + c * P < P * 128 ∧ P * 128 ≤ 9223372036854775808 := by
 have h1 : c * P ≤ 127 * P := Nat.mul_le_mul_right _ (by omega)
 have h2 := pow8 (i := i) (by omega)
 rw [hP] at h2
 omega
theorem numAt_step {b : List Int} {most f i pos n : Nat} (h : i < 10) : numAt b most f i pos n = (if b.length ≤ pos then .bad b.length 160 else
   if (i = 9 ∧ 1 < (b.getD pos 0).toNat % 128 ∧ (b.getD pos 0).toNat < 128) ∨ (0 < i ∧ (b.getD pos 0).toNat = 0) then .bad f 161
   else if (b.getD pos 0).toNat < 128 then (if most < n + (b.getD pos 0).toNat * 128 ^ i then .bad f 161 else .ok (n + (b.getD pos 0).toNat * 128 ^ i) (pos + 1))
   else numAt b most f (i + 1) (pos + 1) (n + ((b.getD pos 0).toNat % 128) * 128 ^ i)) := by
 rw [numAt, if_neg (by omega)]
theorem numAt_end {b : List Int} {most f i pos n : Nat} (h : 10 ≤ i) : numAt b most f i pos n = .bad f 161 := by
 rw [numAt, if_pos h]
theorem Lv.imp {γ : Type} {b : List Int} {F : Res γ} {r r' : Nat → Res γ} {a e pl : Int} (h : Lv b F r a e pl) (hr : ∀ p, r p = r' p) : Lv b F r' a e pl := by
 rcases h with ⟨p, h1, h2, h3, h4⟩ | h
 ·exact .inl ⟨p, h1, h2, h3, h4.trans (hr p)⟩
 ·exact .inr h
/-- What a number's reading comes to in the text. -/
def WOut (p : Nat) (pl : Int) (R : Res Nat) (r : Int × Int × Int × Int) : Prop :=
 match R with
 | .ok n q => r = ((n : Int), (q : Int), 0, pl)
 | .bad q e => r.1 = 0 ∧ r.2.2.1 = e ∧ r.2.2.2 = (q : Int)
theorem rword_l (b : List Int) (hb : Bytes b) (hl : b.length ≤ 1000000) (p : Nat) (hp : p ≤ b.length) (pl : Int) : ∀ (d i : Nat), i + d = 10 → ∀ (n : Nat) (x3 x4 : Int), (i ≤ 9 → x3 = n ∧ x4 = ((128 ^ i : Nat) : Int) ∧ n < 128 ^ i) →
  ∃ r, Ev (fun k => middenref16_text_word.l0 k x3 x4 (i : Int) b (p : Int) 0 pl) r ∧ WOut p pl (numAt b any64 p i (p + i) n) r := by
 intro d
 induction d with
 | zero =>
  intro i hi n x3 x4 h
  have e : i = 10 := by omega
  subst e
  rw [numAt_end (by omega)]
  refine ⟨(0, (p : Int), 161, (p : Int)), Ev.step (f := fun _ => some _) (fun k => ?_) (Ev.now _), rfl, rfl, rfl⟩
  simp only [middenref16_text_word.l0]
  rw [if_neg (by omega)]
  simp [middenref16_text_fault.f]
 | succ d ih =>
  intro i hi n x3 x4 h
  obtain ⟨rfl, rfl, hn⟩ := h (by omega)
  rw [numAt_step (by omega)]
  have hw : wrap64 ((p : Int) + (i : Int)) = ((p + i : Nat) : Int) := by rw [wrap_small (by omega)]; omega
  by_cases hlen : b.length ≤ p + i
  ·rw [if_pos hlen]
   refine ⟨(0, (p : Int), 160, (b.length : Int)), Ev.step (f := fun _ => some _) (fun k => ?_) (Ev.now _), rfl, rfl, rfl⟩
   simp only [middenref16_text_word.l0]
   rw [hw, if_pos (by omega), if_pos (by omega)]
   simp [middenref16_text_fault.f]
  ·rw [if_neg hlen]
   have hlt : p + i < b.length := by omega
   have q1 : (i : Int) < 10 := by omega
   have q2 : ¬ (((p + i : Nat) : Int) ≥ (b.length : Int)) := by omega
   have q3 : (0 : Int) ≤ ((p + i : Nat) : Int) := by omega
   have q4 : ((p + i : Nat) : Int) < (b.length : Int) := by omega
   obtain ⟨hx, hc⟩ := byte_at hb hlt
   obtain ⟨c, hcc⟩ : ∃ c : Nat, (b.getD (p + i) 0).toNat = c := ⟨_, rfl⟩
   have hrd : rd b ((p + i : Nat) : Int) = (c : Int) := by simp only [rd, Int.toNat_natCast]; rw [hx, hcc]
   rw [hcc] at hc ⊢
   have hpow : (128 ^ i : Nat) ≤ 9223372036854775808 := pow9 (by omega)
   have wc : IntKind.u64.wrap (c : Int) = c := wrap64u (by omega)
   obtain ⟨P, hP⟩ : ∃ P : Nat, 128 ^ i = P := ⟨_, rfl⟩
   rw [hP] at hn hpow ⊢
   by_cases hbad : (i = 9 ∧ 1 < c % 128 ∧ c < 128) ∨ (0 < i ∧ c = 0)
   ·rw [if_pos hbad]
    refine ⟨(0, (p : Int), 161, (p : Int)), Ev.step (f := fun _ => some _) (fun k => ?_) (Ev.now _), rfl, rfl, rfl⟩
    simp only [middenref16_text_word.l0]
    rw [hw, if_pos q1, if_neg q2, if_pos q3, if_pos q4, hrd, wc, if_pos (by omega)]
    by_cases hi0 : 0 < i
    ·rw [if_pos (by omega)]
     by_cases hc0 : c = 0
     ·rw [if_pos (by omega)]
      simp [middenref16_text_fault.f]
     ·rw [if_neg (by omega), if_pos (by omega), if_pos (by omega)]
      simp [middenref16_text_fault.f]
    ·omega
   ·rw [if_neg hbad]
    by_cases hsm : c < 128
    ·rw [if_pos hsm]
     have q5 : (c : Int) < 128 := by clear hbad; omega
     have q6 : 0 < i → ¬ (c : Int) = 0 := fun h0 h => hbad (.inr ⟨h0, by clear hbad; omega⟩)
     have q7 : i = 9 → ¬ (c : Int) > 1 := fun h0 h => hbad (.inl ⟨h0, by clear hbad; omega, hsm⟩)
     have hfit : n + c * P ≤ 18446744073709551615 := fits64 (by omega) hP hn hsm (fun h9 => by
      by_cases h : 1 < c % 128
      ·exact absurd (Or.inl ⟨h9, h, hsm⟩) hbad
      ·omega)
     rw [if_neg (by unfold any64; omega)]
     have e1 : IntKind.u64.wrap ((c : Int) * (P : Int)) = ((c * P : Nat) : Int) := by
      rw [show ((c : Int) * (P : Int)) = ((c * P : Nat) : Int) by simp]
      exact wrap64u (by omega)
     have e2 : IntKind.u64.wrap ((n : Int) + ((c * P : Nat) : Int)) = ((n + c * P : Nat) : Int) := by
      rw [wrap64u (by omega)]
      omega
     have e3 : wrap64 (((p + i : Nat) : Int) + 1) = ((p + i + 1 : Nat) : Int) := by rw [wrap_small (by omega)]; omega
     refine ⟨(((n + c * P : Nat) : Int), ((p + i + 1 : Nat) : Int), 0, pl), Ev.step (f := fun _ => some _) (fun k => ?_) (Ev.now _), rfl⟩
     simp only [middenref16_text_word.l0]
     rw [hw, if_pos q1, if_neg q2, if_pos q3, if_pos q4, hrd, wc, if_pos q5, e1, e2, e3]
     by_cases hi0 : 0 < i
     ·rw [if_pos (show (i : Int) > 0 by clear hbad; omega), if_neg (q6 hi0)]
      by_cases h9 : i = 9
      ·rw [if_pos (show (i : Int) = 9 by clear hbad; omega), if_neg (q7 h9)]
      ·rw [if_neg (show ¬ (i : Int) = 9 by clear hbad; omega)]
     ·rw [if_neg (show ¬ (i : Int) > 0 by clear hbad; omega), if_neg (show ¬ (i : Int) = 9 by clear hbad; omega)]
    ·rw [if_neg hsm]
     have hmod : c % 128 = c - 128 := by omega
     have ew : IntKind.u64.wrap ((c : Int) - 128) = ((c - 128 : Nat) : Int) := by rw [wrap64u (by omega)]; omega
     obtain ⟨r, hr, ho⟩ := ih (i + 1) (by omega) (n + (c % 128) * P) (IntKind.u64.wrap ((n : Int) + IntKind.u64.wrap (((c - 128 : Nat) : Int) * (P : Int)))) (IntKind.u64.wrap ((P : Int) * 128)) (fun h9 => by
      obtain ⟨m1, m2⟩ := more64 (c := c - 128) (by omega) hP hn (by omega)
      rw [show (((c - 128 : Nat) : Int) * (P : Int)) = (((c - 128) * P : Nat) : Int) by simp, hmod, Nat.pow_succ, hP]
      generalize (c - 128) * P = M at m1 ⊢
      clear hP ih hbad
      have w1 : IntKind.u64.wrap (M : Int) = M := wrap64u (by omega)
      have w2 : IntKind.u64.wrap ((n : Int) + (M : Int)) = ((n + M : Nat) : Int) := by rw [wrap64u (by omega)]; omega
      have w3 : IntKind.u64.wrap ((P : Int) * 128) = ((P * 128 : Nat) : Int) := by rw [wrap64u (by omega)]; omega
      rw [w1, w2, w3]
      exact ⟨rfl, rfl, m1⟩)
     refine ⟨r, Ev.step (fun k => ?_) hr, ho⟩
     simp only [middenref16_text_word.l0]
     rw [hw, if_pos q1, if_neg q2, if_pos q3, if_pos q4, hrd, wc, if_neg (by omega), ew, show wrap64 ((i : Int) + 1) = ((i + 1 : Nat) : Int) by rw [wrap_small (by omega)]; omega]
theorem num_pos {b : List Int} {most f : Nat} : ∀ (d i pos n v q : Nat), i + d = 10 → numAt b most f i pos n = .ok v q → q ≤ b.length ∧ v ≤ most := by
 intro d
 induction d with
 | zero =>
  intro i pos n v q hi h
  rw [numAt_end (by omega)] at h
  cases h
 | succ d ih =>
  intro i pos n v q hi h
  rw [numAt_step (by omega)] at h
  by_cases h1 : b.length ≤ pos
  ·rw [if_pos h1] at h; cases h
  ·rw [if_neg h1] at h
   split at h
   ·cases h
   ·split at h
    ·split at h
     ·cases h
     ·rename_i hm
      injection h with e1 e2
      omega
    ·exact ih _ _ _ _ _ (by omega) h
theorem num_bad {b : List Int} {most f : Nat} : ∀ (d i pos n q : Nat) (e : Int), i + d = 10 → numAt b most f i pos n = .bad q e → e ≠ 0 := by
 intro d
 induction d with
 | zero =>
  intro i pos n q e hi h
  rw [numAt_end (by omega)] at h
  injection h with h1 h2
  omega
 | succ d ih =>
  intro i pos n q e hi h
  rw [numAt_step (by omega)] at h
  split at h
  ·injection h with h1 h2; omega
  ·split at h
   ·injection h with h1 h2; omega
   ·split at h
    ·split at h
     ·injection h with h1 h2; omega
     ·cases h
    ·exact ih _ _ _ _ _ (by omega) h
theorem num_great {b : List Int} {f : Nat} : ∀ (d i pos n : Nat), i + d = 10 → numAt b great f i pos n = (numAt b any64 f i pos n).bind fun v q => if great < v then .bad f 161 else .ok v q := by
 intro d
 induction d with
 | zero =>
  intro i pos n hi
  rw [numAt_end (by omega), numAt_end (by omega)]
  rfl
 | succ d ih =>
  intro i pos n hi
  rw [numAt_step (most := great) (by omega), numAt_step (most := any64) (by omega)]
  split
  ·rfl
  ·split
   ·rfl
   ·split
    ·by_cases h2 : any64 < n + (b.getD pos 0).toNat * 128 ^ i
     ·rw [if_pos h2, if_pos (by unfold any64 at h2; unfold great; omega)]; rfl
     ·rw [if_neg h2]
      rfl
    ·exact ih _ _ _ (by omega)
theorem rword_lv {γ : Type} {b : List Int} (hb : Bytes b) (hl : b.length ≤ 1000000) {F : Res γ} {K : Nat → Nat → Res γ} {a e pl : Int} (h : Lv b F (fun p => (num b any64 p).bind K) a e pl) :
  ∃ n a' e' pl', Ev (fun k => middenref16_text_word.f k b a e pl) (n, a', e', pl') ∧ 0 ≤ n ∧ n < 18446744073709551616 ∧ (e' ≠ 0 → n = 0) ∧ Lv b F (fun p => K n.toNat p) a' e' pl' := by
 rcases h with ⟨p, rfl, hp, rfl, rfl⟩ | ⟨q, rfl, he, rfl⟩
 ·obtain ⟨r, hr, ho⟩ := rword_l b hb hl p hp pl 10 0 rfl 0 0 1 (fun _ => ⟨rfl, by simp, by simp⟩)
  have hf : Ev (fun k => middenref16_text_word.f k b (p : Int) 0 pl) r := by
   refine Ev.congr (fun k => ?_) hr
   unfold middenref16_text_word.f
   rw [if_pos rfl]
   rfl
  cases hn : num b any64 p with
  | ok n q =>
   have hn' : numAt b any64 p 0 (p + 0) 0 = .ok n q := hn
   rw [hn'] at ho
   obtain ⟨hq, hv⟩ := num_pos 10 0 p 0 n q rfl hn
   cases ho
   exact ⟨n, q, 0, pl, hf, by omega, by unfold any64 at hv; omega, fun h => absurd rfl h, .inl ⟨q, rfl, hq, rfl, by show (num b any64 p).bind K = _; rw [hn]; rfl⟩⟩
  | bad q e =>
   have hn' : numAt b any64 p 0 (p + 0) 0 = .bad q e := hn
   rw [hn'] at ho
   obtain ⟨h1, h2, h3⟩ := ho
   obtain ⟨r1, r2, r3, r4⟩ := r
   simp only at h1 h2 h3
   subst h1 h2 h3
   refine ⟨0, r2, r3, q, hf, by omega, by omega, fun _ => rfl, .inr ⟨q, rfl, num_bad 10 0 p 0 q r3 rfl hn, by show (num b any64 p).bind K = _; rw [hn]; rfl⟩⟩
 ·refine ⟨0, a, e, q, Ev.congr (f := fun _ => some (0, a, e, (q : Int))) (fun k => ?_) (Ev.now _), by omega, by omega, fun _ => rfl, .inr ⟨q, rfl, he, rfl⟩⟩
  unfold middenref16_text_word.f
  rw [if_neg he]
theorem rnum_then {b : List Int} {a e pl n a' e' pl' : Int} {r : Int × Int × Int × Int} (hf : Ev (fun k => middenref16_text_word.f k b a e pl) (n, a', e', pl'))
  (hr : (if e' = 0 then (if n > 4611686018427387905 then ((middenref16_text_fault.f b a' e' pl' a 161).bind fun bt299 => (some (0, bt299.1, bt299.2.1, bt299.2.2))) else (some (n, a', e', pl'))) else (some (n, a', e', pl'))) = some r) : Ev (fun k => middenref16_text_number.f k b a e pl) r := by
 obtain ⟨K, h⟩ := hf
 refine ⟨K, fun k hk => ?_⟩
 have h' : middenref16_text_word.f k b a e pl = _ := h k hk
 show middenref16_text_number.f k b a e pl = _
 unfold middenref16_text_number.f
 rw [h']
 exact hr
theorem rnum_lv {γ : Type} {b : List Int} (hb : Bytes b) (hl : b.length ≤ 1000000) {F : Res γ} {K : Nat → Nat → Res γ} {a e pl : Int} (h : Lv b F (fun p => (num b great p).bind K) a e pl) :
  ∃ n a' e' pl', Ev (fun k => middenref16_text_number.f k b a e pl) (n, a', e', pl') ∧ 0 ≤ n ∧ n ≤ 4611686018427387905 ∧ (e' ≠ 0 → n = 0) ∧ Lv b F (fun p => K n.toNat p) a' e' pl' := by
 rcases h with ⟨p0, rfl, hp0, rfl, rfl⟩ | ⟨q, rfl, he, rfl⟩
 case inr =>
  refine ⟨0, a, e, q, Ev.congr (f := fun _ => some (0, a, e, (q : Int))) (fun k => ?_) (Ev.now _), by omega, by omega, fun _ => rfl, .inr ⟨q, rfl, he, rfl⟩⟩
  unfold middenref16_text_number.f middenref16_text_word.f
  rw [if_neg he, Option.bind_some, if_neg he]
 have h' : Lv b ((num b great p0).bind K) (fun p => (num b any64 p).bind fun v q => if great < v then .bad p0 161 else K v q) (p0 : Int) 0 pl := by
  refine .inl ⟨p0, rfl, hp0, rfl, ?_⟩
  show (numAt b great p0 0 p0 0).bind K = (num b any64 p0).bind _
  rw [num_great 10 0 p0 0 rfl]
  show Res.bind (Res.bind (num b any64 p0) _) K = _
  cases num b any64 p0 with
  | bad q e => rfl
  | ok v q =>
   simp only [Res.bind]
   by_cases hg : great < v
   ·rw [if_pos hg, if_pos hg]
   ·rw [if_neg hg, if_neg hg]
 obtain ⟨n, a', e', pl', hf, h0, h1, hd, hv⟩ := rword_lv hb hl h'
 by_cases he : e' = 0
 ·subst he
  rcases hv with ⟨p, rfl, hp, -, hF⟩ | ⟨q, -, he, -⟩
  ·by_cases hg : n > 4611686018427387905
   ·replace hF : _ = (if great < n.toNat then Res.bad p0 161 else K n.toNat p) := hF
    rw [if_pos (by unfold great; omega)] at hF
    refine ⟨0, p, 161, p0, rnum_then hf ?_, by omega, by omega, fun _ => rfl, .inr ⟨p0, rfl, by decide, hF⟩⟩
    rw [if_pos rfl, if_pos hg]
    simp [middenref16_text_fault.f]
   ·replace hF : _ = (if great < n.toNat then Res.bad p0 161 else K n.toNat p) := hF
    rw [if_neg (by unfold great; omega)] at hF
    refine ⟨n, p, 0, pl', rnum_then hf ?_, h0, by omega, fun h => absurd rfl h, .inl ⟨p, rfl, hp, rfl, hF⟩⟩
    rw [if_pos rfl, if_neg hg]
  ·exact absurd rfl he
 ·have hn := hd he
  subst hn
  rcases hv with ⟨p, -, -, h, -⟩ | ⟨q, rfl, -, hF⟩
  ·exact absurd h he
  ·refine ⟨0, a', e', q, rnum_then hf ?_, by omega, by omega, fun _ => rfl, .inr ⟨q, rfl, he, hF⟩⟩
   rw [if_neg he]
theorem Ev.tie {α β : Type} {g : Nat → Option α} {f : Nat → α → Option β} {a : α} {r : β} {G : Nat → Option β} (hg : Ev g a) (hG : ∀ k, G k = (g k).bind (f k)) (hr : Ev (fun k => f k a) r) : Ev G r :=
 Ev.congr hG (hg.bind hr)
theorem rmany_lv {γ : Type} {b : List Int} (hb : Bytes b) (hl : b.length ≤ 1000000) {F : Res γ} {K : Nat → Nat → Res γ} {a e pl : Int} (h : Lv b F (fun p => (num b great p).bind fun n p => if b.length - p < n then .bad b.length 160 else K n p) a e pl) :
  ∃ n a' e' pl', Ev (fun k => middenref16_text_many.f k b a e pl) (n, a', e', pl') ∧ 0 ≤ n ∧ n ≤ b.length ∧ (e' ≠ 0 → n = 0) ∧ Lv b F (fun p => K n.toNat p) a' e' pl' := by
 obtain ⟨n, a', e', pl', hf, h0, h1, hd, hv⟩ := rnum_lv hb hl h
 rcases hv with ⟨p, rfl, hp, rfl, hF⟩ | ⟨q, rfl, he, hF⟩
 ·have ew : IntKind.u64.wrap (wrap64 ((b.length : Int) - (p : Int))) = ((b.length - p : Nat) : Int) := by
   rw [wrap_small (by omega), wrap64u (by omega)]
   omega
  replace hF : F = (if b.length - p < n.toNat then Res.bad b.length 160 else K n.toNat p) := hF
  by_cases hg : b.length - p < n.toNat
  ·rw [if_pos hg] at hF
   refine ⟨0, p, 160, b.length, Ev.tie hf (fun k => rfl) (Ev.congr (f := fun k => middenref16_text_many.j0 k n true b (p : Int) 0 pl') (fun k => ?_) (Ev.step (f := fun _ => some (0, (p : Int), 160, (b.length : Int))) (fun k => ?_) (Ev.now _))), by omega, by omega, fun _ => rfl, .inr ⟨_, rfl, by decide, hF⟩⟩
   ·simp only
    rw [if_pos trivial, ew, decide_eq_true (show n > ((b.length - p : Nat) : Int) by omega)]
   ·simp only [middenref16_text_many.j0]
    rw [if_pos trivial]
    simp [middenref16_text_fault.f]
  ·rw [if_neg hg] at hF
   refine ⟨n, p, 0, pl', Ev.tie hf (fun k => rfl) (Ev.congr (f := fun k => middenref16_text_many.j0 k n false b (p : Int) 0 pl') (fun k => ?_) (Ev.step (f := fun _ => some (n, (p : Int), 0, pl')) (fun k => ?_) (Ev.now _))), h0, by omega, fun h => absurd rfl h, .inl ⟨p, rfl, hp, rfl, hF⟩⟩
   ·simp only
    rw [if_pos trivial, ew, decide_eq_false (show ¬ n > ((b.length - p : Nat) : Int) by omega)]
   ·simp only [middenref16_text_many.j0]
    rw [if_neg (by simp), if_pos trivial, wrap_small (by omega)]
 ·obtain rfl := hd he
  refine ⟨0, a', e', q, Ev.tie hf (fun k => rfl) (Ev.congr (f := fun k => middenref16_text_many.j0 k 0 false b a' e' (q : Int)) (fun k => ?_) (Ev.step (f := fun _ => some (0, a', e', (q : Int))) (fun k => ?_) (Ev.now _))), by omega, by omega, fun _ => rfl, .inr ⟨q, rfl, he, hF⟩⟩
  ·simp only
   rw [if_neg he]
  ·simp only [middenref16_text_many.j0]
   rw [if_neg (by simp), if_neg he]
/-- ints: its loop. -/
theorem rtints_l {γ : Type} {b : List Int} (hb : Bytes b) (hl : b.length ≤ 1000000) {F : Res γ} (more : Int) (hm : 0 ≤ more ∧ more ≤ 1) {K : List Int → Nat → Res γ} (N : Nat) (hN : N ≤ 1000000) : ∀ (d i : Nat) (acc : List Int) (a e pl : Int), i + d = N → acc.length = i →
  Lv b F (fun p => (many (plain b more) d () p).bind fun y p => K (acc ++ y.1) p) a e pl →
  ∃ l a' e' pl', Ev (fun k => middenref16_text_ints.l0 k more acc (N : Int) (i : Int) b a e pl) (l, a', e', pl') ∧ l.length ≤ N ∧ Lv b F (fun p => K l p) a' e' pl' := by
 intro d
 induction d with
 | zero =>
  intro i acc a e pl hi ha h
  refine ⟨acc, a, e, pl, Ev.step (f := fun _ => some (acc, a, e, pl)) (fun k => ?_) (Ev.now _), by omega, ?_⟩
  ·simp only [middenref16_text_ints.l0]
   rw [if_neg (by omega)]
  ·simpa [many, Res.bind] using h
 | succ d ih =>
  intro i acc a e pl hi ha h
  by_cases he : e = 0
  ·subst he
   have h' : Lv b F (fun p => (num b great p).bind fun n p => (many (plain b more) d () p).bind fun y p => K ((acc ++ [((n : Int) - more)]) ++ y.1) p) a 0 pl := by
    refine Lv.imp h (fun p => ?_)
    simp only [many, plain, int]
    cases num b great p with
    | bad q e => rfl
    | ok n q =>
     simp only [Res.bind]
     cases many (plain b more) d () q with
     | bad q e => rfl
     | ok y q => simp [Res.bind]
   obtain ⟨n, a1, e1, pl1, hf, n0, n1, nd, hv⟩ := rnum_lv hb hl h'
   have hv' : Lv b F (fun p => (many (plain b more) d () p).bind fun y p => K ((acc ++ [n - more]) ++ y.1) p) a1 e1 pl1 := by
    refine Lv.imp hv (fun p => ?_)
    rw [show ((n.toNat : Nat) : Int) = n by omega]
   obtain ⟨l, a', e', pl', hl', hll, hw⟩ := ih (i + 1) (acc ++ [n - more]) a1 e1 pl1 (by omega) (by simp; omega) hv'
   refine ⟨l, a', e', pl', Ev.step (fun k => ?_) (Ev.bind (f := fun k (bt : Int × Int × Int × Int) => if acc.length < 17592186044416 then middenref16_text_ints.l0 k more (acc ++ [wrap64 ((wrap64 bt.1) - more)]) (N : Int) (wrap64 ((i : Int) + 1)) b bt.2.1 bt.2.2.1 bt.2.2.2 else none) hf (Ev.congr (fun k => ?_) hl')), hll, hw⟩
   ·simp only [middenref16_text_ints.l0]
    rw [if_pos (by omega), if_pos trivial]
   ·simp only
    rw [if_pos (by omega), show wrap64 n = n from wrap_small (by omega), wrap_small (by omega), wrap_small (by omega)]
    rfl
  ·refine ⟨acc, a, e, pl, Ev.step (f := fun _ => some (acc, a, e, pl)) (fun k => ?_) (Ev.now _), by omega, ?_⟩
   ·simp only [middenref16_text_ints.l0]
    rw [if_pos (by omega), if_neg he]
   ·rcases h with ⟨p, -, -, h, -⟩ | h
    ·exact absurd h he
    ·exact .inr h
theorem rtints_lv {γ : Type} {b : List Int} (hb : Bytes b) (hl : b.length ≤ 1000000) {F : Res γ} (more : Int) (hm : 0 ≤ more ∧ more ≤ 1) {K : List Int → Nat → Res γ} {a e pl : Int} (h : Lv b F (fun p => (ints b more () p).bind fun y p => K y.1 p) a e pl) :
  ∃ l a' e' pl', Ev (fun k => middenref16_text_ints.f k b a e pl more) (l, a', e', pl') ∧ l.length ≤ 1000000 ∧ Lv b F (fun p => K l p) a' e' pl' := by
 have h1 : Lv b F (fun p => (num b great p).bind fun n p => if b.length - p < n then .bad b.length 160 else (many (plain b more) n () p).bind fun y p => K y.1 p) a e pl := by
  refine Lv.imp h (fun p => ?_)
  simp only [ints, lst]
  cases num b great p with
  | bad q e => rfl
  | ok n q =>
   simp only [Res.bind]
   by_cases hg : b.length - q < n
   ·rw [if_pos hg, if_pos hg]
   ·rw [if_neg hg, if_neg hg]
 obtain ⟨n, a1, e1, pl1, hf, n0, n1, nd, hv⟩ := rmany_lv hb hl h1
 obtain ⟨N, rfl⟩ : ∃ N : Nat, n = N := ⟨n.toNat, by omega⟩
 obtain ⟨l, a', e', pl', hl', hll, hw⟩ := rtints_l hb hl more hm N (by omega) N 0 [] a1 e1 pl1 (by omega) rfl hv
 exact ⟨l, a', e', pl', Ev.tie hf (fun k => rfl) hl', by omega, hw⟩
/-- An object's raws: the loop. -/
theorem rraws_l {γ : Type} {b : List Int} (hb : Bytes b) (hl : b.length ≤ 1000000) {F : Res γ} {K : List Int → Nat → Res γ} (gr : Bool) (u0 u1 u2 : Int) (u3 : List Int) (N : Nat) (hN : N ≤ 1000000) : ∀ (d i : Nat) (acc : List Int) (a e pl : Int), i + d = N → acc.length = i →
  Lv b F (fun p => (many (raw b) d () p).bind fun y p => K (acc ++ y.1) p) a e pl →
  ∃ l a' e' pl', Ev (fun k => middenref16_text_object.l0 k gr (N : Int) (i : Int) b a e pl u0 u1 u2 u3 acc) (u0, u1, u2, u3, l, gr, a', e', pl') ∧ l.length ≤ N ∧ Lv b F (fun p => K l p) a' e' pl' := by
 intro d
 induction d with
 | zero =>
  intro i acc a e pl hi ha h
  refine ⟨acc, a, e, pl, Ev.step (f := fun _ => some (u0, u1, u2, u3, acc, gr, a, e, pl)) (fun k => ?_) (Ev.now _), by omega, ?_⟩
  ·simp only [middenref16_text_object.l0]
   rw [if_neg (by omega)]
  ·simpa [many, Res.bind] using h
 | succ d ih =>
  intro i acc a e pl hi ha h
  by_cases he : e = 0
  ·subst he
   have h' : Lv b F (fun p => (num b any64 p).bind fun n p => (many (raw b) d () p).bind fun y p => K ((acc ++ [(n : Int)]) ++ y.1) p) a 0 pl := by
    refine Lv.imp h (fun p => ?_)
    simp only [many, raw]
    cases num b any64 p with
    | bad q e => rfl
    | ok n q =>
     simp only [Res.bind]
     cases many (raw b) d () q with
     | bad q e => rfl
     | ok y q => simp [Res.bind]
   obtain ⟨n, a1, e1, pl1, hf, n0, n1, nd, hv⟩ := rword_lv hb hl h'
   have hv' : Lv b F (fun p => (many (raw b) d () p).bind fun y p => K ((acc ++ [n]) ++ y.1) p) a1 e1 pl1 := by
    refine Lv.imp hv (fun p => ?_)
    rw [show ((n.toNat : Nat) : Int) = n by omega]
   obtain ⟨l, a', e', pl', hl', hll, hw⟩ := ih (i + 1) (acc ++ [n]) a1 e1 pl1 (by omega) (by simp; omega) hv'
   refine ⟨l, a', e', pl', Ev.step (fun k => ?_) (Ev.bind (f := fun k (bt : Int × Int × Int × Int) => if acc.length < 17592186044416 then middenref16_text_object.l0 k gr (N : Int) (wrap64 ((i : Int) + 1)) b bt.2.1 bt.2.2.1 bt.2.2.2 u0 u1 u2 u3 (acc ++ [bt.1]) else none) hf (Ev.congr (fun k => ?_) hl')), hll, hw⟩
   ·simp only [middenref16_text_object.l0]
    rw [if_pos (by omega), if_pos trivial]
   ·simp only
    rw [if_pos (by omega), wrap_small (by omega)]
    rfl
  ·refine ⟨acc, a, e, pl, Ev.step (f := fun _ => some (u0, u1, u2, u3, acc, gr, a, e, pl)) (fun k => ?_) (Ev.now _), by omega, ?_⟩
   ·simp only [middenref16_text_object.l0]
    rw [if_pos (by omega), if_neg he]
   ·rcases h with ⟨p, -, -, h, -⟩ | h
    ·exact absurd h he
    ·exact .inr h
end Go.Proofs.YtihjjkoddphmiaaDoor.img
