/-
  The reference's reader in plain Lean: an object.
-/
import Derived.Test.YtihjjkoddphmiaaGreatDoorNPImageApartx0
import Derived.Test.YtihjjkoddphmiaaGreatDoorNIm5
namespace Go.Proofs.YtihjjkoddphmiaaGreatDoor.PImageApart
open Go.RowKit Go.Proofs.YtihjjkoddphmiaaGreatDoorW.PrintWords Go.Proofs.YtihjjkoddphmiaaGreatDoorW.PrintLast Go.Proofs.YtihjjkoddphmiaaGreatDoorW.PrintMore
attribute [local go_sem] max2_int min2_int max_two min_two max_three min_three max_four min_four   -- for this text's walks alone
set_option linter.unusedVariables false
set_option linter.unusedSimpArgs false

/-- A state of type 69 at block g of W; what its slices lead to came in by w0. -/
def IsS69 (w0 W : World) (g : Nat) (f0 : List Int) (f1 : Int) (f2 : Int) (f3 : Int) : Prop := ∃ A0 c0, W.heap[g]? = some (.cells #[.slice A0 f0.length c0, .int .i64 f1, .int .i64 f2, .int .i64 f3] 69 (0, 0)) ∧ w0.heap.size ≤ g ∧ Kd.C (Kd.int .u8) w0 A0 f0.length f0
theorem IsS69.grown {w0 W : World} {g : Nat} {f0 : List Int} {f1 : Int} {f2 : Int} {f3 : Int} {W1 : World} {row : Option Nat} (h : IsS69 w0 W g f0 f1 f2 f3) (hw : W.grownBy W1 row) (hne : some g ≠ row) : IsS69 w0 W1 g f0 f1 f2 f3 := by
 obtain ⟨A0, c0, hb, hg, hr0⟩ := h
 exact ⟨A0, c0, blk_grown hb hw hne, hg, hr0⟩
theorem IsS69.below {w0 W : World} {g : Nat} {f0 : List Int} {f1 : Int} {f2 : Int} {f3 : Int} {W1 : World} (h : IsS69 w0 W g f0 f1 f2 f3) (hw : Below W.heap.size W W1) : IsS69 w0 W1 g f0 f1 f2 f3 := h.grown (grown_of_below hw none) (by simp)
theorem IsS69.alloc {w0 W : World} {g : Nat} {f0 : List Int} {f1 : Int} {f2 : Int} {f3 : Int} (h : IsS69 w0 W g f0 f1 f2 f3) (o : Obj) : IsS69 w0 (W.alloc o) g f0 f1 f2 f3 := h.below (below_alloc (Below.refl _ _) o)
theorem IsS69.drewN {w0 W : World} {g : Nat} {f0 : List Int} {f1 : Int} {f2 : Int} {f3 : Int} (h : IsS69 w0 W g f0 f1 f2 f3) (m : Nat) : IsS69 w0 (W.drewN m) g f0 f1 f2 f3 := h
theorem IsS69.apart {w0 W : World} {g : Nat} {f0 : List Int} {f1 : Int} {f2 : Int} {f3 : Int} {α : Type} {d : Kd α} {e : Nat} {base : Nat} {ok : Nat → Prop} {v : Value} {xs : List α} (h : IsS69 w0 W g f0 f1 f2 f3) (ho : d.R e W base ok v xs) (ht : ∀ q, q ∈ e :: d.E → q ≠ 69) : d.R e W base (fun k => ok k ∧ k ≠ g) v xs := by
 obtain ⟨A0, c0, hb, hg, hr0⟩ := h
 exact Kd.R_types ho hb ht
theorem IsS69.own_ne {w0 W : World} {g : Nat} {f0 : List Int} {f1 : Int} {f2 : Int} {f3 : Int} {α : Type} {d : Kd α} {e : Nat} {base : Nat} {ok : Nat → Prop} {v : Value} {xs : List α} (h : IsS69 w0 W g f0 f1 f2 f3) (ho : d.R e W base ok v xs) (ht : e ≠ 69) : some g ≠ v.ownBlock := by
 obtain ⟨A0, c0, hb, hg, hr0⟩ := h
 exact Kd.R_ne ho hb ht
theorem IsS69.ge {w0 W : World} {g : Nat} {f0 : List Int} {f1 : Int} {f2 : Int} {f3 : Int} (h : IsS69 w0 W g f0 f1 f2 f3) : w0.heap.size ≤ g := by
 obtain ⟨A0, c0, hb, hg, hr0⟩ := h
 exact hg
theorem IsS69.ne_blk {w0 W : World} {g : Nat} {f0 : List Int} {f1 : Int} {f2 : Int} {f3 : Int} {a : Nat} {cs : Array Value} {t : TypeId} {fr : Nat × Nat} (h : IsS69 w0 W g f0 f1 f2 f3) (hb2 : W.heap[a]? = some (.cells cs t fr)) (ht : t ≠ 69) : g ≠ a := by
 obtain ⟨A0, c0, hb, hg, hr0⟩ := h
 rintro rfl
 rw [hb] at hb2
 injection hb2 with hb2
 injection hb2 with _ ht2
 exact ht ht2.symm
theorem IsS69.far {w0 W : World} {g : Nat} {f0 : List Int} {f1 : Int} {f2 : Int} {f3 : Int} {p : Addr} (h : IsS69 w0 W g f0 f1 f2 f3) (hne : g ≠ p.block) (u : Value) : IsS69 w0 (W.setCell p u) g f0 f1 f2 f3 := by
 obtain ⟨A0, c0, hb, hg, hr0⟩ := h
 exact ⟨A0, c0, blk_far hb hne u, hg, hr0⟩
theorem cellS69_0 {W : World} {g : Nat} {A0 : Option Addr} {c0 : Nat} {f0 : List Int} {f1 : Int} {f2 : Int} {f3 : Int} (h : W.heap[g]? = some (.cells #[.slice A0 f0.length c0, .int .i64 f1, .int .i64 f2, .int .i64 f3] 69 (0, 0))) : W.cell? ⟨g, 0, none⟩ = some (.slice A0 f0.length c0) := (blk_cell h 0).trans rfl
theorem cellS69_1 {W : World} {g : Nat} {A0 : Option Addr} {c0 : Nat} {f0 : List Int} {f1 : Int} {f2 : Int} {f3 : Int} (h : W.heap[g]? = some (.cells #[.slice A0 f0.length c0, .int .i64 f1, .int .i64 f2, .int .i64 f3] 69 (0, 0))) : W.cell? ⟨g, 1, none⟩ = some (.int .i64 f1) := (blk_cell h 1).trans rfl
theorem IsS69.set_1 {w0 W : World} {g : Nat} {f0 : List Int} {f1 : Int} {f2 : Int} {f3 : Int} (h : IsS69 w0 W g f0 f1 f2 f3) (x : Int) : IsS69 w0 (W.setCell ⟨g, 1, none⟩ (.int .i64 x)) g f0 x f2 f3 := by
 obtain ⟨A0, c0, hb, hg, hr0⟩ := h
 exact ⟨A0, c0, by simpa using blk_set hb 1 (.int .i64 x), hg, hr0⟩
theorem cellS69_2 {W : World} {g : Nat} {A0 : Option Addr} {c0 : Nat} {f0 : List Int} {f1 : Int} {f2 : Int} {f3 : Int} (h : W.heap[g]? = some (.cells #[.slice A0 f0.length c0, .int .i64 f1, .int .i64 f2, .int .i64 f3] 69 (0, 0))) : W.cell? ⟨g, 2, none⟩ = some (.int .i64 f2) := (blk_cell h 2).trans rfl
theorem IsS69.set_2 {w0 W : World} {g : Nat} {f0 : List Int} {f1 : Int} {f2 : Int} {f3 : Int} (h : IsS69 w0 W g f0 f1 f2 f3) (x : Int) : IsS69 w0 (W.setCell ⟨g, 2, none⟩ (.int .i64 x)) g f0 f1 x f3 := by
 obtain ⟨A0, c0, hb, hg, hr0⟩ := h
 exact ⟨A0, c0, by simpa using blk_set hb 2 (.int .i64 x), hg, hr0⟩
theorem cellS69_3 {W : World} {g : Nat} {A0 : Option Addr} {c0 : Nat} {f0 : List Int} {f1 : Int} {f2 : Int} {f3 : Int} (h : W.heap[g]? = some (.cells #[.slice A0 f0.length c0, .int .i64 f1, .int .i64 f2, .int .i64 f3] 69 (0, 0))) : W.cell? ⟨g, 3, none⟩ = some (.int .i64 f3) := (blk_cell h 3).trans rfl
theorem IsS69.set_3 {w0 W : World} {g : Nat} {f0 : List Int} {f1 : Int} {f2 : Int} {f3 : Int} (h : IsS69 w0 W g f0 f1 f2 f3) (x : Int) : IsS69 w0 (W.setCell ⟨g, 3, none⟩ (.int .i64 x)) g f0 f1 f2 x := by
 obtain ⟨A0, c0, hb, hg, hr0⟩ := h
 exact ⟨A0, c0, by simpa using blk_set hb 3 (.int .i64 x), hg, hr0⟩
theorem IsS69.new (w0 W : World) (A0 : Option Addr) (c0 : Nat) (f0 : List Int) (f1 : Int) (f2 : Int) (f3 : Int) (hB : Below w0.heap.size w0 W) (hr0 : Kd.C (Kd.int .u8) w0 A0 f0.length f0) : IsS69 w0 (W.alloc (.cells #[.slice A0 f0.length c0, .int .i64 f1, .int .i64 f2, .int .i64 f3] 69)) W.heap.size f0 f1 f2 f3 := ⟨A0, c0, by simpa using heap_alloc_new W _, hB.size, hr0⟩

end Go.Proofs.YtihjjkoddphmiaaGreatDoor.PImageApart
namespace Go.Proofs.YtihjjkoddphmiaaGreatDoor.img
open Go.RowKit Go.Proofs.YtihjjkoddphmiaaGreatDoorW.PrintWords Go.Proofs.YtihjjkoddphmiaaGreatDoorW.PrintLast Go.Proofs.YtihjjkoddphmiaaGreatDoorW.PrintMore Go.Proofs.YtihjjkoddphmiaaGreatDoor.PImageApart
set_option linter.unusedVariables false
set_option linter.unusedSimpArgs false

/-- The whole reading's result, told from here on; or it has failed. -/
def Lv {γ : Type} (b : List Int) (F : Res γ) (rest : Nat → Res γ) (a e pl : Int) : Prop :=
 (∃ p : Nat, a = p ∧ p ≤ b.length ∧ e = 0 ∧ F = rest p) ∨ (∃ q : Nat, pl = q ∧ e ≠ 0 ∧ F = .bad q e)
theorem wrap64u {x : Int} (h : 0 ≤ x ∧ x < 18446744073709551616) : IntKind.u64.wrap x = x := by rw [IntKind.wrap_u64]; omega
theorem pow9 {i : Nat} (h : i ≤ 9) : (128 : Nat) ^ i ≤ 9223372036854775808 := Nat.le_trans (Nat.pow_le_pow_right (by decide) h) (by decide)
theorem pow8 {i : Nat} (h : i ≤ 8) : (128 : Nat) ^ i ≤ 72057594037927936 := Nat.le_trans (Nat.pow_le_pow_right (by decide) h) (by decide)
theorem fits64 {i n c P : Nat} (hi : i ≤ 9) (hP : 128 ^ i = P) (hn : n < P) (hc : c < 128) (h9 : i = 9 → c ≤ 1) : n + c * P ≤ 18446744073709551615 := by
 by_cases h : i = 9
 ·have h1 : c * P ≤ 1 * P := Nat.mul_le_mul_right _ (h9 h)
  have h2 := pow9 hi
  rw [hP] at h2
  omega
 ·have h1 : c * P ≤ 127 * P := Nat.mul_le_mul_right _ (by omega)
  have h2 := pow8 (i := i) (by omega)
  rw [hP] at h2
  omega
theorem more64 {i n c P : Nat} (hi : i + 1 ≤ 9) (hP : 128 ^ i = P) (hn : n < P) (hc : c < 128) : n + c * P < P * 128 ∧ P * 128 ≤ 9223372036854775808 := by
 have h1 : c * P ≤ 127 * P := Nat.mul_le_mul_right _ (by omega)
 have h2 := pow8 (i := i) (by omega)
 rw [hP] at h2
 omega
theorem numAt_step {b : List Int} {most f i pos n : Nat} (h : i < 10) : numAt b most f i pos n = (if b.length ≤ pos then .bad b.length 160 else
   if (i = 9 ∧ 1 < (b.getD pos 0).toNat % 128 ∧ (b.getD pos 0).toNat < 128) ∨ (0 < i ∧ (b.getD pos 0).toNat = 0) then .bad f 161
   else if (b.getD pos 0).toNat < 128 then (if most < n + (b.getD pos 0).toNat * 128 ^ i then .bad f 161 else .ok (n + (b.getD pos 0).toNat * 128 ^ i) (pos + 1))
   else numAt b most f (i + 1) (pos + 1) (n + ((b.getD pos 0).toNat % 128) * 128 ^ i)) := by
 rw [numAt, if_neg (by omega)]
theorem numAt_end {b : List Int} {most f i pos n : Nat} (h : 10 ≤ i) : numAt b most f i pos n = .bad f 161 := by
 rw [numAt, if_pos h]
theorem Lv.imp {γ : Type} {b : List Int} {F : Res γ} {r r' : Nat → Res γ} {a e pl : Int} (h : Lv b F r a e pl) (hr : ∀ p, r p = r' p) : Lv b F r' a e pl := by
 rcases h with ⟨p, h1, h2, h3, h4⟩ | h
 ·exact .inl ⟨p, h1, h2, h3, h4.trans (hr p)⟩
 ·exact .inr h
theorem num_pos {b : List Int} {most f : Nat} : ∀ (d i pos n v q : Nat), i + d = 10 → numAt b most f i pos n = .ok v q → q ≤ b.length ∧ v ≤ most := by
 intro d
 induction d with
 | zero =>
  intro i pos n v q hi h
  rw [numAt_end (by omega)] at h
  cases h
 | succ d ih =>
  intro i pos n v q hi h
  rw [numAt_step (by omega)] at h
  by_cases h1 : b.length ≤ pos
  ·rw [if_pos h1] at h; cases h
  ·rw [if_neg h1] at h
   split at h
   ·cases h
   ·split at h
    ·split at h
     ·cases h
     ·rename_i hm
      injection h with e1 e2
      omega
    ·exact ih _ _ _ _ _ (by omega) h
theorem num_bad {b : List Int} {most f : Nat} : ∀ (d i pos n q : Nat) (e : Int), i + d = 10 → numAt b most f i pos n = .bad q e → e ≠ 0 := by
 intro d
 induction d with
 | zero =>
  intro i pos n q e hi h
  rw [numAt_end (by omega)] at h
  injection h with h1 h2
  omega
 | succ d ih =>
  intro i pos n q e hi h
  rw [numAt_step (by omega)] at h
  split at h
  ·injection h with h1 h2; omega
  ·split at h
   ·injection h with h1 h2; omega
   ·split at h
    ·split at h
     ·injection h with h1 h2; omega
     ·cases h
    ·exact ih _ _ _ _ _ (by omega) h
theorem num_great {b : List Int} {f : Nat} : ∀ (d i pos n : Nat), i + d = 10 → numAt b great f i pos n = (numAt b any64 f i pos n).bind fun v q => if great < v then .bad f 161 else .ok v q := by
 intro d
 induction d with
 | zero =>
  intro i pos n hi
  rw [numAt_end (by omega), numAt_end (by omega)]
  rfl
 | succ d ih =>
  intro i pos n hi
  rw [numAt_step (most := great) (by omega), numAt_step (most := any64) (by omega)]
  split
  ·rfl
  ·split
   ·rfl
   ·split
    ·by_cases h2 : any64 < n + (b.getD pos 0).toNat * 128 ^ i
     ·rw [if_pos h2, if_pos (by unfold any64 at h2; unfold great; omega)]; rfl
     ·rw [if_neg h2]
      rfl
    ·exact ih _ _ _ (by omega)
end Go.Proofs.YtihjjkoddphmiaaGreatDoor.img
namespace Go.Proofs.YtihjjkoddphmiaaGreatDoor.img
open Go.RowKit Go.Proofs.YtihjjkoddphmiaaGreatDoorW.PrintWords Go.Proofs.YtihjjkoddphmiaaGreatDoorW.PrintLast Go.Proofs.YtihjjkoddphmiaaGreatDoorW.PrintMore Go.Proofs.YtihjjkoddphmiaaGreatDoor.PImageApart
set_option linter.unusedVariables false
set_option linter.unusedSimpArgs false

theorem Res.bind_assoc {α β γ : Type} (r : Res α) (f : α → Nat → Res β) (g : β → Nat → Res γ) : (r.bind f).bind g = r.bind fun a p => (f a p).bind g := by cases r <;> rfl
theorem Res.ok_bind {α β : Type} (a : α) (p : Nat) (f : α → Nat → Res β) : (Res.ok a p).bind f = f a p := rfl
theorem Res.bad_bind {α β : Type} (p : Nat) (e : Int) (f : α → Nat → Res β) : (Res.bad p e).bind f = .bad p e := rfl
theorem Res.ite_bind {α β : Type} (c : Prop) [Decidable c] (r s : Res α) (f : α → Nat → Res β) : (if c then r else s).bind f = if c then r.bind f else s.bind f := by split <;> rfl
/-- An object's serial as the reader has it. -/
abbrev ser (last step : Int) : Int := min (last + step) 9223372036854775808
theorem obj_open (b : List Int) (last : Int) {γ : Type} (K : S66 × Int → Nat → Res γ) (p : Nat) : (obj b last p).bind K = (num b great p).bind fun step p => (num b great p).bind fun kind p => (num b great p).bind fun site p => (ints b 0 () p).bind fun ptrs p =>
  (num b great p).bind fun n p => if b.length - p < n then .bad b.length 160 else (many (raw b) n () p).bind fun raws p => K (⟨ser last step, kind, site, ptrs.1, raws.1⟩, ser last step) p := by
 unfold obj int
 simp only [Res.bind_assoc, Res.ok_bind, lst, Res.ite_bind, Res.bad_bind, Int.sub_zero]
/-- What object hands back. -/
structure Obk (last : Int) (step : Int) (o : S66) (gr : Bool) : Prop where
 pos : 0 ≤ step
 l3 : o.f3.length ≤ 1000000
 l4 : o.f4.length ≤ 1000000
 low : 0 ≤ o.f0 ∧ o.f0 ≤ 4611686018427387904
 fine : gr = false → o.f0 = last + step ∧ last + step ≤ 4611686018427387904
 over : gr = true → 4611686018427387904 < last + step
end Go.Proofs.YtihjjkoddphmiaaGreatDoor.img
