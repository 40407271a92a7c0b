/-
  DERIVED. GIVEN WITH THE SEED: THE CARDS: each row of YtihjjkoddphmiaaGreatDoorRows.lean that lists a variable, with what it lists TIED to the program's text (the seventh form; the later family's looks); each row that meets fmt, with fmt's text TOLD by the authors' own Lean function (tested against real Go, not proved from fmt's source: count such statements apart). THE CARD IS WHAT COUNTS. Prove the row's statement (the work); the ties are given (YtihjjkoddphmiaaGreatDoorTie.lean); close each card by the builder's one call (the guide's Derived/Test/ToyasCard.lean, 'card_holds'). Laid BY PROGRAM, IN A SANDBOX (cutbox-door.mjs). By AI agents, Wed Nov 11 2026. No macro, syntax, notation, axiom, sorry.
-/
import Derived.Test.YtihjjkoddphmiaaGreatDoorRows
import GoSem.ClaimSeven
namespace Go.Proofs.YtihjjkoddphmiaaGreatDoor
namespace Rows

/-- THE TIED CARD OF 'middenlaw16.ImageApart'. -/
def imageApartCard : Claim7 := { stood := { row := imageApartRow, standIns := [], harness := (true, "8c97d1f4fd14cd7b9fdf25a8d338433992e8f2db59f9041c7ba9e673f38dd818"), looks := true }, kinds := [], alts := [], laidByText := true, laidKinds := [.data, .data, .data, .data, .data], laidTests := true, laidLooks := .later }
def ImageApartCardSaid : Prop := Claim7.holds Tryz.pinned (.plain (OpenSpec.ofChange imageApartSpec)) imageApartCard

/-- THE SECOND FORM's CARD OF 'middenlaw16.ImageApart'. -/
def imageApartUptoCard : Claim7 := { stood := { row := imageApartUptoRow, standIns := [], harness := (true, "8c97d1f4fd14cd7b9fdf25a8d338433992e8f2db59f9041c7ba9e673f38dd818"), looks := true }, kinds := [], alts := [], laidByText := true, laidKinds := [.data, .data, .data, .data, .data], laidTests := true, laidLooks := .later }
def ImageApartUptoCardSaid : Prop := Claim7.holds Tryz.pinned (.plain (OpenSpec.upto imageApartSpec)) imageApartUptoCard
end Rows
end Go.Proofs.YtihjjkoddphmiaaGreatDoor
