/-
  A row whose blocks lie in an interval.
-/
import Derived.Test.YtihjjkoddphmiaaGreatDoorNSep
namespace Go.Proofs.YtihjjkoddphmiaaGreatDoor.img
open Go.RowKit Go.Proofs.YtihjjkoddphmiaaGreatDoorW.PrintWords Go.Proofs.YtihjjkoddphmiaaGreatDoorW.PrintMore
set_option linter.unusedVariables false
set_option linter.unusedSimpArgs false

/-- A row whose blocks lie in [l, u), behind lo. -/
structure Iv {α : Type} (d : Kd α) (e b lo : Nat) (w : World) (v : Value) (xs : List α) (l u : Nat) : Prop where
 lo : lo ≤ l
 lu : l ≤ u
 us : u ≤ w.heap.size
 row : Rsp d e w b (fun k => l ≤ k ∧ k < u) v xs u
section
variable {α : Type} {d : Kd α} {e b b' lo l u : Nat} {w w1 : World} {v : Value} {xs : List α}
theorem Iv.of (h : Rsp d e w1 b' (fun _ => True) v xs w1.heap.size) (hb : b ≤ b') (hlo : lo ≤ b') (hl : b' ≤ w1.heap.size) : Iv d e b lo w1 v xs b' w1.heap.size := ⟨hlo, hl, Nat.le_refl _, (h.bound.lower hb).mono (fun k hk => ⟨hk.2.1, hk.2.2.1⟩) (Nat.le_refl _)⟩
theorem Iv.below (h : Iv d e b lo w v xs l u) (hb : Below w.heap.size w w1) : Iv d e b lo w1 v xs l u := ⟨h.lo, h.lu, Nat.le_trans h.us hb.size, h.row.below hb⟩
theorem Iv.kept {S : Nat → Prop} (h : Iv d e b lo w v xs l u) (hk : Kept w w1 S) (hS : ∀ k, S k → k < l) : Iv d e b lo w1 v xs l u := ⟨h.lo, h.lu, Nat.le_trans h.us hk.1, h.row.kept hk (fun k hk' hs => by have := hS k hs; have := hk'.1; omega)⟩
theorem Iv.lower (h : Iv d e b lo w v xs l u) (hb : b' ≤ b) : Iv d e b' lo w v xs l u := ⟨h.lo, h.lu, h.us, h.row.lower hb⟩
theorem Iv.back {lo' : Nat} (h : Iv d e b lo w v xs l u) (hb : lo' ≤ lo) : Iv d e b lo' w v xs l u := ⟨Nat.le_trans hb h.lo, h.lu, h.us, h.row⟩
theorem Iv.set (h : Iv d e b lo w v xs l u) {g t : Nat} {cells : Array Value} (hb : w.heap[g]? = some (.cells cells t (0, 0))) (ht : ∀ q, q ∈ e :: d.E → q ≠ t) (j : Nat) (x : Value) : Iv d e b lo (w.setCell ⟨g, j, none⟩ x) v xs l u := ⟨h.lo, h.lu, by simpa [World.setCell] using h.us, h.row.set hb ht j x⟩
theorem Rsp_int {k : IntKind} {N : Nat} {ok : Nat → Prop} {xs : List Int} (h : (Kd.int k).R e w b ok v xs) : Rsp (Kd.int k) e w b ok v xs N := by
 obtain ⟨h0, inner, ho, hr⟩ := h
 refine ⟨xs.map (fun x => (x, 0, 0)), (List.map_map ..).trans (List.map_id xs), ⟨?_, fun a ha => by obtain ⟨x, -, rfl⟩ := List.mem_map.1 ha; exact Nat.zero_le _⟩, h0, inner, by rw [List.length_map]; exact ho, by rw [List.length_map]; exact hr.1, fun j p hj => ?_⟩
 ·rw [List.pairwise_map]; exact List.pairwise_of_forall (fun _ _ => Nat.le_refl _)
 ·rw [List.getElem?_map] at hj
  obtain ⟨x, hx, rfl⟩ := Option.map_eq_some_iff.1 hj
  exact hr.2 j x hx
end
end Go.Proofs.YtihjjkoddphmiaaGreatDoor.img
