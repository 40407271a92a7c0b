/-
  The reference's reader in plain Lean: an object.
-/
import Derived.Test.YtihjjkoddphmiaaDoorMRefTx
namespace Go.Proofs.YtihjjkoddphmiaaDoor.img
open Go.RowKit Go.Proofs.YtihjjkoddphmiaaDoorW.PrintWords Go.Proofs.YtihjjkoddphmiaaDoorW.PrintLast Go.Proofs.YtihjjkoddphmiaaDoorW.PrintMore Go.Proofs.YtihjjkoddphmiaaDoor.PImageRound
set_option linter.unusedVariables false
set_option linter.unusedSimpArgs false

theorem Res.bind_assoc {α β γ : Type} (r : Res α) (f : α → Nat → Res β) (g : β → Nat → Res γ) : (r.bind f).bind g = r.bind fun a p => (f a p).bind g := by cases r <;> rfl
theorem Res.ok_bind {α β : Type} (a : α) (p : Nat) (f : α → Nat → Res β) : (Res.ok a p).bind f = f a p := rfl
theorem Res.bad_bind {α β : Type} (p : Nat) (e : Int) (f : α → Nat → Res β) : (Res.bad p e).bind f = .bad p e := rfl
theorem Res.ite_bind {α β : Type} (c : Prop) [Decidable c] (r s : Res α) (f : α → Nat → Res β) : (if c then r else s).bind f = if c then r.bind f else s.bind f := by split <;> rfl
/-- An object's serial as the reader has it. -/
abbrev ser (last step : Int) : Int := min (last + step) 9223372036854775808
theorem obj_open (b : List Int) (last : Int) {γ : Type} (K : S62 × Int → Nat → Res γ) (p : Nat) : (obj b last p).bind K = (num b great p).bind fun step p => (num b great p).bind fun kind p => (num b great p).bind fun site p => (ints b 0 () p).bind fun ptrs p =>
  (num b great p).bind fun n p => if b.length - p < n then .bad b.length 160 else (many (raw b) n () p).bind fun raws p => K (⟨ser last step, kind, site, ptrs.1, raws.1⟩, ser last step) p := by
 unfold obj int
 simp only [Res.bind_assoc, Res.ok_bind, lst, Res.ite_bind, Res.bad_bind, Int.sub_zero]
/-- What object hands back. -/
structure Obk (last : Int) (step : Int) (o : S62) (gr : Bool) : Prop where
 pos : 0 ≤ step
 l3 : o.f3.length ≤ 1000000
 l4 : o.f4.length ≤ 1000000
 low : 0 ≤ o.f0 ∧ o.f0 ≤ 4611686018427387904
 fine : gr = false → o.f0 = last + step ∧ last + step ≤ 4611686018427387904
 over : gr = true → 4611686018427387904 < last + step
theorem robject_lv {γ : Type} {b : List Int} (hb : Bytes b) (hl : b.length ≤ 1000000) {F : Res γ} {K : S62 × Int → Nat → Res γ} {a e pl : Int} (last lastP : Int) (hlast : 0 ≤ last ∧ last ≤ 4611686018427387904) (h : Lv b F (fun p => (obj b lastP p).bind K) a e pl) :
  ∃ (o : S62) (gr : Bool) (a' e' pl' step : Int), Ev (fun k => middenref16_text_object.f k b a e pl last) (o.f0, o.f1, o.f2, o.f3, o.f4, gr, a', e', pl') ∧ Obk last step o gr ∧ Lv b F (fun p => K (⟨ser lastP step, o.f1, o.f2, o.f3, o.f4⟩, ser lastP step) p) a' e' pl' := by
 have h0 := Lv.imp h (obj_open b lastP K)
 obtain ⟨step, a1, e1, pl1, hf1, s0, s1, -, h1⟩ := rnum_lv hb hl h0
 obtain ⟨kind, a2, e2, pl2, hf2, k0, k1, -, h2⟩ := rnum_lv hb hl h1
 obtain ⟨site, a3, e3, pl3, hf3, t0, t1, -, h3⟩ := rnum_lv hb hl h2
 obtain ⟨ptrs, a4, e4, pl4, hf4, hp4, h4⟩ := rtints_lv (K := fun ptrs p => (num b great p).bind fun n p => if b.length - p < n then .bad b.length 160 else (many (raw b) n () p).bind fun raws p => K (⟨ser lastP step.toNat, kind.toNat, site.toNat, ptrs, raws.1⟩, ser lastP step.toNat) p) hb hl 0 (by omega) h3
 obtain ⟨n, a5, e5, pl5, hf5, n0, n1, -, h5⟩ := rmany_lv hb hl h4
 obtain ⟨N, rfl⟩ : ∃ N : Nat, n = N := ⟨n.toNat, by omega⟩
 obtain ⟨sr, gr, hgr, hs⟩ : ∃ (sr : Int) (gr : Bool), gr = decide (4611686018427387904 < last + step) ∧ sr = if gr = true then 0 else last + step := ⟨_, _, rfl, rfl⟩
 obtain ⟨raws, a6, e6, pl6, hf6, hp6, h6⟩ := rraws_l (K := fun raws p => K (⟨ser lastP step.toNat, kind.toNat, site.toNat, ptrs, raws⟩, ser lastP step.toNat) p) hb hl gr sr kind site ptrs N (by omega) N 0 [] a5 e5 pl5 (by omega) rfl h5
 refine ⟨⟨sr, kind, site, ptrs, raws⟩, gr, a6, e6, pl6, step, ?_, ⟨s0, hp4, by show raws.length ≤ 1000000; omega, ?_, ?_, ?_⟩, ?_⟩
 ·have j1 : Ev (fun k => middenref16_text_object.j1 k gr b a1 e1 pl1 sr 0 0) (sr, kind, site, ptrs, raws, gr, a6, e6, pl6) := by
   refine Ev.step (fun k => rfl) (Ev.tie hf2 (fun k => rfl) (Ev.tie hf3 (fun k => rfl) (Ev.tie hf4 (fun k => rfl) (Ev.tie hf5 (fun k => rfl) ?_))))
   simp only
   rw [show wrap64 kind = kind from wrap_small (by omega), show wrap64 site = site from wrap_small (by omega)]
   exact hf6
  have j0 : Ev (fun k => middenref16_text_object.j0 k last step gr b a1 e1 pl1 0 0 0) (sr, kind, site, ptrs, raws, gr, a6, e6, pl6) := by
   refine Ev.step (fun k => ?_) j1
   simp only [middenref16_text_object.j0]
   cases hgr2 : gr with
   | true =>
    rw [hgr2] at hs
    rw [if_pos rfl] at hs ⊢
    rw [hs]
   | false =>
    rw [hgr2] at hs
    have hle := of_decide_eq_false (hgr.symm.trans hgr2)
    rw [if_neg (by decide)] at hs ⊢
    rw [hs, wrap64u (by omega)]
  refine Ev.tie hf1 (fun k => rfl) (Ev.congr (fun k => ?_) j0)
  simp only
  by_cases hg : step > 4611686018427387904
  ·rw [if_pos hg, hgr, decide_eq_true (by omega)]
  ·rw [if_neg hg, wrap64u (by omega), hgr]
   congr 1
   exact decide_eq_decide.2 (by omega)
 ·show 0 ≤ sr ∧ sr ≤ _
  cases hgr2 : gr with
  | true => rw [hgr2] at hs; rw [if_pos rfl] at hs; omega
  | false =>
   have hle := of_decide_eq_false (hgr.symm.trans hgr2)
   rw [hgr2] at hs
   rw [if_neg (by decide)] at hs
   omega
 ·intro hgr2
  have hle := of_decide_eq_false (hgr.symm.trans hgr2)
  rw [hgr2] at hs
  rw [if_neg (by decide)] at hs
  exact ⟨hs, by omega⟩
 ·intro hgr2
  exact of_decide_eq_true (hgr.symm.trans hgr2)
 ·refine Lv.imp h6 (fun p => ?_)
  rw [show ((step.toNat : Nat) : Int) = step by omega, show ((kind.toNat : Nat) : Int) = kind by omega, show ((site.toNat : Nat) : Int) = site by omega]
end Go.Proofs.YtihjjkoddphmiaaDoor.img
