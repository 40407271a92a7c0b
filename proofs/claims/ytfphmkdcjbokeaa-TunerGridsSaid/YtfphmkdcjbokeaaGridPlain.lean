/-
  The configurations next to one: plain Lean; both Valid functions answer one predicate.
-/
import Derived.Test.YtfphmkdcjbokeaaPTunerGridsx3
import Derived.Test.YtfphmkdcjbokeaaPTunerGridsx5
namespace Go.Proofs.Ytfphmkdcjbokeaa.grids
open Go.RowKit Go.Proofs.YtfphmkdcjbokeaaW.PrintWords Go.Proofs.Ytfphmkdcjbokeaa.PTunerGrids

def inB (n lo hi : Int) : Bool := decide (lo ≤ n) && decide (n ≤ hi)
theorem within_f (n lo hi : Int) : arena_within.f n lo hi = some (inB n lo hi) := by
  unfold arena_within.f inB
  by_cases h : lo ≤ n
  · rw [if_pos h]; simp [h]
  · rw [if_neg h]; simp [h]
theorem between_f (n lo hi : Int) : middenref3_between.f n lo hi = some (inB n lo hi) := by
  unfold middenref3_between.f inB
  by_cases h : lo ≤ n
  · rw [if_pos h]; simp [h]
  · rw [if_neg h]; simp [h]

/-- May the configuration be? -/
def vd (a0 a1 a2 a3 a4 a5 a6 a7 a8 a9 a10 a11 a12 a13 : Int) : Bool :=
  (inB a0 64 65536 && inB a1 64 65536 && inB a2 64 65536) && ((inB a3 2 65536 && inB a4 0 65536 && inB a6 1 65536 && inB a5 a6 65536) && ((inB a7 1 100 && inB a8 1 15) && ((inB a9 1 8 && inB a10 1 4096 && inB a11 0 1024) && inB a12 0 a0 && inB a13 1 8)))

theorem arena_j2 (k : Nat) (s b r : Bool) (a0 a1 a2 a3 a4 a5 a6 a7 a8 a9 a10 a11 a12 a13 : Int) : arena_Valid.j2 (k + 1) s b r a0 a1 a2 a3 a4 a5 a6 a7 a8 a9 a10 a11 a12 a13 = some (s && (b && (r && ((inB a9 1 8 && inB a10 1 4096 && inB a11 0 1024) && inB a12 0 a0 && inB a13 1 8)))) := by
  simp only [arena_Valid.j2, within_f, Option.bind_some]
  generalize inB a9 1 8 = x1
  generalize inB a10 1 4096 = x2
  generalize inB a11 0 1024 = x3
  generalize inB a12 0 a0 = x4
  generalize inB a13 1 8 = x5
  revert s b r x1 x2 x3 x4 x5
  decide
theorem arena_j1 (k : Nat) (s b : Bool) (a0 a1 a2 a3 a4 a5 a6 a7 a8 a9 a10 a11 a12 a13 : Int) : arena_Valid.j1 (k + 2) s b a0 a1 a2 a3 a4 a5 a6 a7 a8 a9 a10 a11 a12 a13 = some (s && (b && ((inB a7 1 100 && inB a8 1 15) && ((inB a9 1 8 && inB a10 1 4096 && inB a11 0 1024) && inB a12 0 a0 && inB a13 1 8)))) := by
  rw [arena_Valid.j1]
  simp only [within_f, Option.bind_some, arena_j2]
  generalize inB a7 1 100 = x1
  generalize inB a8 1 15 = x2
  cases x1 <;> cases x2 <;> simp
theorem arena_j0 (k : Nat) (s : Bool) (a0 a1 a2 a3 a4 a5 a6 a7 a8 a9 a10 a11 a12 a13 : Int) : arena_Valid.j0 (k + 3) s a0 a1 a2 a3 a4 a5 a6 a7 a8 a9 a10 a11 a12 a13 = some (s && ((inB a3 2 65536 && inB a4 0 65536 && inB a6 1 65536 && inB a5 a6 65536) && ((inB a7 1 100 && inB a8 1 15) && ((inB a9 1 8 && inB a10 1 4096 && inB a11 0 1024) && inB a12 0 a0 && inB a13 1 8)))) := by
  rw [arena_Valid.j0]
  simp only [within_f, Option.bind_some, arena_j1]
  generalize inB a3 2 65536 = x1
  generalize inB a4 0 65536 = x2
  generalize inB a6 1 65536 = x3
  generalize inB a5 a6 65536 = x4
  cases x1 <;> cases x2 <;> cases x3 <;> cases x4 <;> simp
theorem arena_vd (a0 a1 a2 a3 a4 a5 a6 a7 a8 a9 a10 a11 a12 a13 : Int) : arena_Valid.f 3 a0 a1 a2 a3 a4 a5 a6 a7 a8 a9 a10 a11 a12 a13 = some (vd a0 a1 a2 a3 a4 a5 a6 a7 a8 a9 a10 a11 a12 a13) := by
  unfold arena_Valid.f vd
  simp only [within_f, Option.bind_some, arena_j0]
  generalize inB a0 64 65536 = x1
  generalize inB a1 64 65536 = x2
  generalize inB a2 64 65536 = x3
  cases x1 <;> cases x2 <;> cases x3 <;> simp

theorem ref_j3 (k : Nat) (s b t r : Bool) (a0 a1 a2 a3 a4 a5 a6 a7 a8 a9 a10 a11 a12 a13 : Int) : middenref3_Valid.j3 (k + 1) s b t r a0 a1 a2 a3 a4 a5 a6 a7 a8 a9 a10 a11 a12 a13 = some (s && (b && (t && (r && ((inB a9 1 8 && inB a10 1 4096 && inB a11 0 1024) && inB a12 0 a0 && inB a13 1 8))))) := by
  simp only [middenref3_Valid.j3, between_f, Option.bind_some]
  generalize inB a9 1 8 = x1
  generalize inB a10 1 4096 = x2
  generalize inB a11 0 1024 = x3
  generalize inB a12 0 a0 = x4
  generalize inB a13 1 8 = x5
  cases s <;> cases b <;> cases t <;> cases r <;> revert x1 x2 x3 x4 x5 <;> decide
theorem ref_j2 (k : Nat) (s b t : Bool) (a0 a1 a2 a3 a4 a5 a6 a7 a8 a9 a10 a11 a12 a13 : Int) : middenref3_Valid.j2 (k + 2) s b t a0 a1 a2 a3 a4 a5 a6 a7 a8 a9 a10 a11 a12 a13 = some (s && (b && (t && ((inB a7 1 100 && inB a8 1 15) && ((inB a9 1 8 && inB a10 1 4096 && inB a11 0 1024) && inB a12 0 a0 && inB a13 1 8))))) := by
  rw [middenref3_Valid.j2]
  simp only [between_f, Option.bind_some, ref_j3]
  generalize inB a7 1 100 = x1
  generalize inB a8 1 15 = x2
  cases x1 <;> cases x2 <;> simp
theorem ref_j1 (k : Nat) (s b : Bool) (a0 a1 a2 a3 a4 a5 a6 a7 a8 a9 a10 a11 a12 a13 : Int) : middenref3_Valid.j1 (k + 3) s b a0 a1 a2 a3 a4 a5 a6 a7 a8 a9 a10 a11 a12 a13 = some (s && (b && ((decide (1 ≤ a6) && decide (a6 ≤ a5) && decide (a5 ≤ 65536)) && ((inB a7 1 100 && inB a8 1 15) && ((inB a9 1 8 && inB a10 1 4096 && inB a11 0 1024) && inB a12 0 a0 && inB a13 1 8))))) := by
  rw [middenref3_Valid.j1]
  simp only [ref_j2]
  by_cases h1 : 1 ≤ a6
  · by_cases h2 : a6 ≤ a5
    · rw [if_pos h1, if_pos h2]; simp [h1, h2]
    · rw [if_pos h1, if_neg h2]; simp [h1, h2]
  · rw [if_neg h1]; simp [h1]
theorem ref_j0 (k : Nat) (s : Bool) (a0 a1 a2 a3 a4 a5 a6 a7 a8 a9 a10 a11 a12 a13 : Int) : middenref3_Valid.j0 (k + 4) s a0 a1 a2 a3 a4 a5 a6 a7 a8 a9 a10 a11 a12 a13 = some (s && ((inB a3 2 65536 && inB a4 0 65536) && ((decide (1 ≤ a6) && decide (a6 ≤ a5) && decide (a5 ≤ 65536)) && ((inB a7 1 100 && inB a8 1 15) && ((inB a9 1 8 && inB a10 1 4096 && inB a11 0 1024) && inB a12 0 a0 && inB a13 1 8))))) := by
  rw [middenref3_Valid.j0]
  simp only [between_f, Option.bind_some, ref_j1]
  generalize inB a3 2 65536 = x1
  generalize inB a4 0 65536 = x2
  cases x1 <;> cases x2 <;> simp
theorem ratio (a5 a6 : Int) : (decide (1 ≤ a6) && decide (a6 ≤ a5) && decide (a5 ≤ 65536)) = (inB a6 1 65536 && inB a5 a6 65536) := by
  unfold inB
  rw [Bool.eq_iff_iff]
  simp only [Bool.and_eq_true, decide_eq_true_eq]
  omega
theorem ref_vd (a0 a1 a2 a3 a4 a5 a6 a7 a8 a9 a10 a11 a12 a13 : Int) : middenref3_Valid.f 4 a0 a1 a2 a3 a4 a5 a6 a7 a8 a9 a10 a11 a12 a13 = some (vd a0 a1 a2 a3 a4 a5 a6 a7 a8 a9 a10 a11 a12 a13) := by
  unfold middenref3_Valid.f vd
  simp only [between_f, Option.bind_some, ref_j0, ratio]
  generalize inB a0 64 65536 = x1
  generalize inB a1 64 65536 = x2
  generalize inB a2 64 65536 = x3
  cases x1 <;> cases x2 <;> cases x3 <;> simp [Bool.and_assoc]

def V (c : S29) : Bool := vd c.f0 c.f1 c.f2 c.f3 c.f4 c.f5 c.f6 c.f7 c.f8 c.f9 c.f10 c.f11 c.f12 c.f13
/-- What a configuration that may be tells of its numbers. -/
theorem vd_bounds {a0 a1 a2 a3 a4 a5 a6 a7 a8 a9 a10 a11 a12 a13 : Int} (h : vd a0 a1 a2 a3 a4 a5 a6 a7 a8 a9 a10 a11 a12 a13 = true) : (64 ≤ a0 ∧ a0 ≤ 65536) ∧ (64 ≤ a1 ∧ a1 ≤ 65536) ∧ (2 ≤ a3 ∧ a3 ≤ 65536) ∧ (1 ≤ a5 ∧ a5 ≤ 65536) ∧ (1 ≤ a7 ∧ a7 ≤ 100) ∧ (1 ≤ a8 ∧ a8 ≤ 15) := by
  simp only [vd, inB, Bool.and_eq_true, decide_eq_true_eq] at h
  omega

/-- A step. -/
def qu (n : Int) : Int := if n < 4 then 1 else n / 4
/-- One field, one step. -/
def nb (c : S29) (f : Nat) (s : Int) : S29 :=
  match f with
  | 0 => { c with f0 := c.f0 + s * qu c.f0 }
  | 1 => { c with f1 := c.f1 + s * qu c.f1 }
  | 2 => { c with f3 := c.f3 + s * qu c.f3 }
  | 3 => { c with f5 := c.f5 + s }
  | 4 => { c with f7 := c.f7 + 10 * s }
  | _ => { c with f8 := c.f8 + s }
def allC (c : S29) : List S29 := [nb c 0 (-1), nb c 1 (-1), nb c 2 (-1), nb c 3 (-1), nb c 4 (-1), nb c 5 (-1), nb c 0 1, nb c 1 1, nb c 2 1, nb c 3 1, nb c 4 1, nb c 5 1]
def cand (c : S29) : List S29 := [nb c 0 (-1), nb c 0 1, nb c 1 (-1), nb c 1 1, nb c 2 (-1), nb c 2 1, nb c 3 (-1), nb c 3 1, nb c 4 (-1), nb c 4 1, nb c 5 (-1), nb c 5 1]
/-- The first n neighbours that may be. -/
def upto (c : S29) (n : Nat) : List S29 := ((cand c).take n).filter V
end Go.Proofs.Ytfphmkdcjbokeaa.grids
