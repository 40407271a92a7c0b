/-
  Contracts of the reference's text: what each method does to the reading.
-/
import Derived.Test.YtihjjkoddphmiaaGreatDoorNRefTo
namespace Go.Proofs.YtihjjkoddphmiaaGreatDoor.img
open Go.RowKit Go.Proofs.YtihjjkoddphmiaaGreatDoorW.PrintWords Go.Proofs.YtihjjkoddphmiaaGreatDoorW.PrintLast Go.Proofs.YtihjjkoddphmiaaGreatDoorW.PrintMore Go.Proofs.YtihjjkoddphmiaaGreatDoor.PImageApart
set_option linter.unusedVariables false
set_option linter.unusedSimpArgs false

/-- The text behind a call. -/
structure Ts (w0 w : World) (g : Nat) (b : List Int) (a e pl : Int) (w' : World) : Prop where
 tx : IsS69 w0 w' g b a e pl
 bel : Below w0.heap.size w0 w'
 keep : KeepBut w w' g none
section
variable {γ : Type} {b : List Int} {F : Res γ} {a e pl : Int} {w0 w : World} {g : Nat}
end
end Go.Proofs.YtihjjkoddphmiaaGreatDoor.img
