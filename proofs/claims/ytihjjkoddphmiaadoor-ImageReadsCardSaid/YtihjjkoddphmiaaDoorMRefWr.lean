/-
  The reference's Write in plain Lean: it comes to the graph's image.
-/
import Derived.Test.YtihjjkoddphmiaaDoorMPImageRoundx0
import Derived.Test.YtihjjkoddphmiaaDoorMRefCheck
import Derived.Test.YtihjjkoddphmiaaDoorMRefInts
import Derived.Test.YtihjjkoddphmiaaDoorMIm5
namespace Go.Proofs.YtihjjkoddphmiaaDoor.img
open Go.RowKit Go.Proofs.YtihjjkoddphmiaaDoorW.PrintWords Go.Proofs.YtihjjkoddphmiaaDoorW.PrintLast Go.Proofs.YtihjjkoddphmiaaDoorW.PrintMore Go.Proofs.YtihjjkoddphmiaaDoor.PImageRound
set_option linter.unusedVariables false
set_option linter.unusedSimpArgs false

theorem wrapu {x : Int} (h : 0 ≤ x ∧ x < 18446744073709551616) : IntKind.u64.wrap x = x := by rw [IntKind.wrap_u64]; omega
theorem xor_u64 (a b : Nat) (ha : a < 4294967296) (hb : b < 4294967296) : bits BinOp.xor IntKind.u64 (a : Int) (b : Int) = ((a ^^^ b : Nat) : Int) := by
 have hlt : a ^^^ b < 4294967296 := by
  have : (4294967296 : Nat) = 2 ^ 32 := by decide
  rw [this] at ha hb ⊢
  exact Nat.xor_lt_two_pow ha hb
 unfold bits
 have e32 : IntKind.u64.bits = 64 := rfl
 have h : ((BitVec.ofInt IntKind.u64.bits (a : Int)) ^^^ (BitVec.ofInt IntKind.u64.bits (b : Int))).toNat = a ^^^ b := by
  rw [BitVec.toNat_xor]
  simp only [BitVec.toNat_ofInt, e32]
  have e1 : ((a : Int) % ((2 ^ 64 : Nat) : Int)).toNat = a := by
   have : ((2 ^ 64 : Nat) : Int) = 18446744073709551616 := by decide
   rw [this]
   omega
  have e2 : ((b : Int) % ((2 ^ 64 : Nat) : Int)).toNat = b := by
   have : ((2 ^ 64 : Nat) : Int) = 18446744073709551616 := by decide
   rw [this]
   omega
  rw [e1, e2]
 simp only [h]
 exact wrapu (by omega)
theorem rsum_l (l : List Int) (hb : Bytes l) (hl : l.length ≤ 1000000000000) : ∀ (d i s : Nat), l.length - i = d → i ≤ l.length → s < 4294967296 → Ev (fun k => middenref16_Sum.l0 k l (s : Int) (i : Int)) ((fnvFrom s (l.drop i) : Nat) : Int) := by
 intro d
 induction d with
 | zero =>
  intro i s hd hi hs
  have e : i = l.length := by omega
  subst e
  refine Ev.step (f := fun _ => some (s : Int)) (fun k => ?_) (by simpa [fnvFrom] using Ev.now (s : Int))
  simp only [middenref16_Sum.l0]
  rw [if_neg (by omega), show (s : Int) % 4294967296 = s by omega]
 | succ d ih =>
  intro i s hd hi hs
  have hlt : i < l.length := by omega
  rw [drop_get l i 0 hlt]
  have hrd : rd l (i : Int) = l.getD i 0 := by simp [rd]
  obtain ⟨hx, hc⟩ := byte_at hb hlt
  have hf : fnvFrom s (l.getD i 0 :: l.drop (i + 1)) = fnvFrom (fstep s (l.getD i 0).toNat) (l.drop (i + 1)) := rfl
  rw [hf]
  have := ih (i + 1) (fstep s (l.getD i 0).toNat) (by omega) (by omega) (fstep_lt _ _)
  refine Ev.step (fun k => ?_) this
  simp only [middenref16_Sum.l0]
  rw [if_pos (by omega), if_pos (by omega), hrd, wrap_small (by omega), wrapu (x := l.getD i 0) (by omega)]
  have e1 : l.getD i 0 = (((l.getD i 0).toNat : Nat) : Int) := by omega
  have e2 : bits BinOp.xor IntKind.u64 (s : Int) (l.getD i 0) = ((s ^^^ (l.getD i 0).toNat : Nat) : Int) := by rw [e1, xor_u64 s _ hs (by omega)]; rfl
  have hx2 : s ^^^ (l.getD i 0).toNat < 4294967296 := xor_lt hs (by omega)
  rw [e2, wrapu (by omega), Int.tmod_eq_emod_of_nonneg (by omega)]
  have e3 : ((s ^^^ (l.getD i 0).toNat : Nat) : Int) * 16777619 % 4294967296 = ((fstep s (l.getD i 0).toNat : Nat) : Int) := by unfold fstep; simp
  rw [e3]
  rfl
theorem rsum_ev (l : List Int) (hb : Bytes l) (hl : l.length ≤ 1000000000000) : Ev (fun k => middenref16_Sum.f k l) ((fnv l : Nat) : Int) := by
 have := rsum_l l hb hl l.length 0 2166136261 (by omega) (by omega) (by omega)
 simpa [middenref16_Sum.f, fnv, fnvFrom] using this

section
variable {a0 : List S62} {a1 : List (List (List Int))} {a2 a3 a4 : List Int} {a5 : Int}
end
end Go.Proofs.YtihjjkoddphmiaaDoor.img
