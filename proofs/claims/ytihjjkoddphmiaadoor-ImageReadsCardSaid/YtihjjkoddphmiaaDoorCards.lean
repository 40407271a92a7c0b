/-
  DERIVED. GIVEN WITH THE SEED: THE CARDS: each row of YtihjjkoddphmiaaDoorRows.lean that lists a variable, with what it lists TIED to the program's text (the seventh form; the later family's looks); each row that meets fmt, with fmt's text TOLD by the authors' own Lean function (tested against real Go, not proved from fmt's source: count such statements apart). THE CARD IS WHAT COUNTS. Prove the row's statement (the work); the ties are given (YtihjjkoddphmiaaDoorTie.lean); close each card by the builder's one call (the guide's Derived/Test/ToyasCard.lean, 'card_holds'). Laid BY PROGRAM, IN A SANDBOX (cutbox-door.mjs). By AI agents, Wed Nov 11 2026. No macro, syntax, notation, axiom, sorry.
-/
import Derived.Test.YtihjjkoddphmiaaDoorRows
import GoSem.ClaimSeven
namespace Go.Proofs.YtihjjkoddphmiaaDoor
namespace Rows

/-- THE TIED CARD OF 'middenlaw16.ImageChecks'. -/
def imageChecksCard : Claim7 := { stood := { row := imageChecksRow, standIns := [], harness := (true, "5de017fc92d7f8af0042a488842696f2aec04e73157e1f76d3fee699cca23201"), looks := true }, kinds := [], alts := [], laidByText := true, laidKinds := [.data, .data], laidTests := true, laidLooks := .later }
def ImageChecksCardSaid : Prop := Claim7.holds Tryd.pinned (.plain (OpenSpec.ofChange imageChecksSpec)) imageChecksCard

/-- THE TIED CARD OF 'middenlaw16.ImageWrites'. -/
def imageWritesCard : Claim7 := { stood := { row := imageWritesRow, standIns := [], harness := (true, "5de017fc92d7f8af0042a488842696f2aec04e73157e1f76d3fee699cca23201"), looks := true }, kinds := [], alts := [], laidByText := true, laidKinds := [.data, .data], laidTests := true, laidLooks := .later }
def ImageWritesCardSaid : Prop := Claim7.holds Tryd.pinned (.plain (OpenSpec.ofChange imageWritesSpec)) imageWritesCard

/-- THE TIED CARD OF 'middenlaw16.ImageReads'. -/
def imageReadsCard : Claim7 := { stood := { row := imageReadsRow, standIns := [], harness := (true, "5de017fc92d7f8af0042a488842696f2aec04e73157e1f76d3fee699cca23201"), looks := true }, kinds := [], alts := [], laidByText := true, laidKinds := [.data, .data], laidTests := true, laidLooks := .later }
def ImageReadsCardSaid : Prop := Claim7.holds Tryd.pinned (.plain (OpenSpec.ofChange imageReadsSpec)) imageReadsCard

/-- THE TIED CARD OF 'middenlaw16.ImageRound'. -/
def imageRoundCard : Claim7 := { stood := { row := imageRoundRow, standIns := [], harness := (true, "5de017fc92d7f8af0042a488842696f2aec04e73157e1f76d3fee699cca23201"), looks := true }, kinds := [], alts := [], laidByText := true, laidKinds := [.data, .data], laidTests := true, laidLooks := .later }
def ImageRoundCardSaid : Prop := Claim7.holds Tryd.pinned (.plain (OpenSpec.ofChange imageRoundSpec)) imageRoundCard

/-- THE TIED CARD OF 'middenlaw16.ImageOne'. -/
def imageOneCard : Claim7 := { stood := { row := imageOneRow, standIns := [], harness := (true, "5de017fc92d7f8af0042a488842696f2aec04e73157e1f76d3fee699cca23201"), looks := true }, kinds := [], alts := [], laidByText := true, laidKinds := [.data, .data], laidTests := true, laidLooks := .later }
def ImageOneCardSaid : Prop := Claim7.holds Tryd.pinned (.plain (OpenSpec.ofChange imageOneSpec)) imageOneCard

/-- THE TIED CARD OF 'middenlaw16.ImageTorn'. -/
def imageTornCard : Claim7 := { stood := { row := imageTornRow, standIns := [], harness := (true, "5de017fc92d7f8af0042a488842696f2aec04e73157e1f76d3fee699cca23201"), looks := true }, kinds := [], alts := [], laidByText := true, laidKinds := [.data, .data], laidTests := true, laidLooks := .later }
def ImageTornCardSaid : Prop := Claim7.holds Tryd.pinned (.plain (OpenSpec.ofChange imageTornSpec)) imageTornCard

/-- THE SECOND FORM's CARD OF 'middenlaw16.ImageChecks'. -/
def imageChecksUptoCard : Claim7 := { stood := { row := imageChecksUptoRow, standIns := [], harness := (true, "5de017fc92d7f8af0042a488842696f2aec04e73157e1f76d3fee699cca23201"), looks := true }, kinds := [], alts := [], laidByText := true, laidKinds := [.data, .data], laidTests := true, laidLooks := .later }
def ImageChecksUptoCardSaid : Prop := Claim7.holds Tryd.pinned (.plain (OpenSpec.upto imageChecksSpec)) imageChecksUptoCard

/-- THE SECOND FORM's CARD OF 'middenlaw16.ImageWrites'. -/
def imageWritesUptoCard : Claim7 := { stood := { row := imageWritesUptoRow, standIns := [], harness := (true, "5de017fc92d7f8af0042a488842696f2aec04e73157e1f76d3fee699cca23201"), looks := true }, kinds := [], alts := [], laidByText := true, laidKinds := [.data, .data], laidTests := true, laidLooks := .later }
def ImageWritesUptoCardSaid : Prop := Claim7.holds Tryd.pinned (.plain (OpenSpec.upto imageWritesSpec)) imageWritesUptoCard

/-- THE SECOND FORM's CARD OF 'middenlaw16.ImageReads'. -/
def imageReadsUptoCard : Claim7 := { stood := { row := imageReadsUptoRow, standIns := [], harness := (true, "5de017fc92d7f8af0042a488842696f2aec04e73157e1f76d3fee699cca23201"), looks := true }, kinds := [], alts := [], laidByText := true, laidKinds := [.data, .data], laidTests := true, laidLooks := .later }
def ImageReadsUptoCardSaid : Prop := Claim7.holds Tryd.pinned (.plain (OpenSpec.upto imageReadsSpec)) imageReadsUptoCard

/-- THE SECOND FORM's CARD OF 'middenlaw16.ImageRound'. -/
def imageRoundUptoCard : Claim7 := { stood := { row := imageRoundUptoRow, standIns := [], harness := (true, "5de017fc92d7f8af0042a488842696f2aec04e73157e1f76d3fee699cca23201"), looks := true }, kinds := [], alts := [], laidByText := true, laidKinds := [.data, .data], laidTests := true, laidLooks := .later }
def ImageRoundUptoCardSaid : Prop := Claim7.holds Tryd.pinned (.plain (OpenSpec.upto imageRoundSpec)) imageRoundUptoCard

/-- THE SECOND FORM's CARD OF 'middenlaw16.ImageOne'. -/
def imageOneUptoCard : Claim7 := { stood := { row := imageOneUptoRow, standIns := [], harness := (true, "5de017fc92d7f8af0042a488842696f2aec04e73157e1f76d3fee699cca23201"), looks := true }, kinds := [], alts := [], laidByText := true, laidKinds := [.data, .data], laidTests := true, laidLooks := .later }
def ImageOneUptoCardSaid : Prop := Claim7.holds Tryd.pinned (.plain (OpenSpec.upto imageOneSpec)) imageOneUptoCard

/-- THE SECOND FORM's CARD OF 'middenlaw16.ImageTorn'. -/
def imageTornUptoCard : Claim7 := { stood := { row := imageTornUptoRow, standIns := [], harness := (true, "5de017fc92d7f8af0042a488842696f2aec04e73157e1f76d3fee699cca23201"), looks := true }, kinds := [], alts := [], laidByText := true, laidKinds := [.data, .data], laidTests := true, laidLooks := .later }
def ImageTornUptoCardSaid : Prop := Claim7.holds Tryd.pinned (.plain (OpenSpec.upto imageTornSpec)) imageTornUptoCard
end Rows
end Go.Proofs.YtihjjkoddphmiaaDoor
