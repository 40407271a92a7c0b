/-
  What the laws of images hold while they look.
-/
import Derived.Test.YtihjjkoddphmiaaDoorMIm5
import Derived.Test.YtihjjkoddphmiaaDoorMRefCheck
import Derived.Test.YtihjjkoddphmiaaDoorMRmHoldL
import Derived.Deep.DeepCutAuto
import Derived.RegionTactic
import Derived.Deep.RegionLaw
import Derived.OpenShut
import Derived.StillTailTactics
namespace Go.Proofs.YtihjjkoddphmiaaDoor.img
open Go.RowKit Go.Proofs.YtihjjkoddphmiaaDoorW.PrintWords Go.Proofs.YtihjjkoddphmiaaDoorW.PrintLast Go.Proofs.YtihjjkoddphmiaaDoorW.PrintMore Go.Proofs.YtihjjkoddphmiaaDoor.PImageRound
set_option linter.unusedVariables false
set_option linter.unusedSimpArgs false

/-- A room that was made just now. -/
abbrev room0 : Array Value := #[.slice none 0 0, .slice none 0 0, .slice none 0 0, .slice none 0 0, .slice none 0 0, .slice none 0 0, .slice none 0 0, .slice none 0 0]
def role0 (r : Nat) : Nat → Role := fun k => if k = r then .own else .work
theorem Rm.start (w : World) : Rm (w.alloc (.cells room0 38)) (role0 w.heap.size) w.heap.size w.heap.size room0 0 := by
 refine ⟨heap_alloc_new w _, Nat.le_refl _, if_pos rfl, fun k hk => if_neg (by simp at hk; omega), rfl, rfl, rfl, fun f m hf => ?_, fun x hx => ?_⟩
 ·unfold role0 at hf
  split at hf <;> cases hf
 ·have hn : ∀ (i e : Nat) (M : Mk), room0[i]? = some (.slice none 0 0) → Fld (w.alloc (.cells room0 38)) (role0 w.heap.size) w.heap.size room0 i e M 0 := fun i e M h =>
   ⟨_, [], h, own_nil _ _ _ _, Nat.le_refl _, fun k hk => by simp [Value.ownBlock] at hk, fun u hu => by simp at hu⟩
  simp only [flds, List.mem_cons, List.not_mem_nil, or_false] at hx
  rcases hx with rfl | rfl | rfl | rfl | rfl | rfl <;> exact hn _ _ _ rfl
end Go.Proofs.YtihjjkoddphmiaaDoor.img
