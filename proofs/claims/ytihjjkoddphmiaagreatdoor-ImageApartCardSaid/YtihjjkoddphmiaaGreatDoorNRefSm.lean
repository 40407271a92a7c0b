/-
  The four bytes of the checksum as the reference reads them.
-/
import Derived.Test.YtihjjkoddphmiaaGreatDoorNIm5
namespace Go.Proofs.YtihjjkoddphmiaaGreatDoor.img
open Go.RowKit Go.Proofs.YtihjjkoddphmiaaGreatDoorW.PrintWords Go.Proofs.YtihjjkoddphmiaaGreatDoorW.PrintLast Go.Proofs.YtihjjkoddphmiaaGreatDoorW.PrintMore Go.Proofs.YtihjjkoddphmiaaGreatDoor.PImageApart
set_option linter.unusedVariables false
set_option linter.unusedSimpArgs false

def v4 (b : List Int) (p : Nat) : Nat → Nat
 | 0 => 0
 | d + 1 => 256 * v4 b p d + (b.getD (p + (3 - d)) 0).toNat
theorem v4_lt {b : List Int} {p : Nat} (hb : Bytes b) (h : p + 4 ≤ b.length) : ∀ d, d ≤ 4 → v4 b p d < 256 ^ d
 | 0, _ => Nat.zero_lt_one
 | d + 1, hd => by
  have ih := v4_lt hb h d (by omega)
  obtain ⟨-, hc⟩ := byte_at hb (show p + (3 - d) < b.length by omega)
  show 256 * v4 b p d + _ < 256 ^ (d + 1)
  rw [Nat.pow_succ]
  omega
theorem v4_small {b : List Int} {p : Nat} (hb : Bytes b) (h : p + 4 ≤ b.length) {d : Nat} (hd : d ≤ 3) : 256 * v4 b p d ≤ 4294967040 := by
 have := v4_lt hb h d (by omega)
 have h2 : 256 ^ d ≤ 256 ^ 3 := Nat.pow_le_pow_right (by decide) hd
 omega
theorem four_val {b : List Int} {p N : Nat} (hb : Bytes b) (h : ¬ b.length - p < 4) (hN : N < 4294967296) : (b.drop p).take 4 = sb N ↔ v4 b p 4 = N := by
 have hx : ∀ j, j < 4 → b.getD (p + j) 0 = ((b.getD (p + j) 0).toNat : Int) ∧ (b.getD (p + j) 0).toNat < 256 := fun j hj => byte_at hb (by omega)
 obtain ⟨s0, s1, s2, s3⟩ := sb_get N
 have e : v4 b p 4 = 256 * (256 * (256 * (256 * 0 + (b.getD (p + 3) 0).toNat) + (b.getD (p + 2) 0).toNat) + (b.getD (p + 1) 0).toNat) + (b.getD (p + 0) 0).toNat := rfl
 have x0 := hx 0 (by omega)
 have x1 := hx 1 (by omega)
 have x2 := hx 2 (by omega)
 have x3 := hx 3 (by omega)
 constructor
 ·intro k
  have hj : ∀ j, j < 4 → b.getD (p + j) 0 = (sb N).getD j 0 := fun j hj => Classical.byContradiction fun hne => four_ne h hj hne k
  have j0 := hj 0 (by omega)
  have j1 := hj 1 (by omega)
  have j2 := hj 2 (by omega)
  have j3 := hj 3 (by omega)
  rw [e]
  omega
 ·intro k
  rw [e] at k
  refine four_eq h (fun j hj => ?_)
  match j, hj with
  | 0, _ => omega
  | 1, _ => omega
  | 2, _ => omega
  | 3, _ => omega
end Go.Proofs.YtihjjkoddphmiaaGreatDoor.img
