/-
  NARROWER THAN 'FOR EVERY INPUT', by the rows' own cells (each row's printed sentence says how): ImageChecks: laid · ImageWrites: laid · ImageReads: laid · ImageRound: laid · ImageOne: laid · ImageTorn: laid.
  DERIVED. THE GIVEN ROWS OF THIS SEAT. 6 by the template 'for every input the law returns true; each argument reads behind the call as it read before'; 0 by the template 'total and deterministic' (their statements: YtihjjkoddphmiaaDoorTotals.lean).
  GIVEN WITH THE SEED: the statements are not yours to turn. If you find one false, say at which input.
  Laid BY PROGRAM, IN A SANDBOX (cutbox-rows.mjs): the forced cells as the released guide's own fill.sh prints them over the translation e04cb40a4098b3b5… (all of the seat's roots in one cut). By AI agents, Wed Nov 11 2026. No macro, syntax, notation, axiom, sorry.
-/
import Derived.Test.YtihjjkoddphmiaaDoorChecked
import GoSem.Claim
import GoSem.ClaimJoined
import GoSem.ClaimMapViews
import Derived.JoinedTies
import Derived.KernelRfl
namespace Go.Proofs.YtihjjkoddphmiaaDoor
/- THE CELL 'sum', in the pinned program and in every row, IS THE sha256 OF THE DUMP (.gsa) THAT YtihjjkoddphmiaaDoorProg.lean LOADS. Nothing in Lean hashes anything: it is a label: what it is worth is what the hold of that sum in a sandbox is worth. -/
noncomputable def Tryd.pinned : Pinned := { name := "ytihjjkoddphmiaadoor", sum := "e04cb40a4098b3b51b42e1779e762d4769c5ca45e5b2304da385cc47f84e9063", checked := Tryd.checked }
namespace Rows
def none {H : Type} : Left H := { results := [], args := [] }

/- WHAT THE LISTED PACKAGE-LEVEL VARIABLES READ AS WHEN THE CALL BEGINS. Each datum BY PROGRAM (the guide's laid-datum.mjs) off the statement by which the dump's own 'gosem.cut.vars' lays the variable. In a bare row this is a premise. The card (YtihjjkoddphmiaaDoorCards.lean) ties it to the program's text. -/
def laid_midden_cell_widths {H : Type} : DataW H := .agg [.lit (.int .i64 3), .lit (.int .i64 1), .lit (.int .i64 4), .lit (.int .i64 8), .lit (.int .i64 12), .lit (.int .i64 16)]
def laid_midden_cell_needs {H : Type} : DataW H := .agg [.lit (.int .i64 (-1)), .lit (.int .i64 0), .lit (.int .i64 1), .lit (.int .i64 2), .lit (.int .i64 0)]

/-- 'middenlaw16.ImageChecks': WHATEVER THE INPUT: true; the input reads as it did. -/
def imageChecksSpec : ChangeSpec := { name := "imageChecks", fn := fun _ => fun
  | [d] => { results := [.lit (.bool true)], args := [d] }
  | _ => none }
def imageChecksRow : OpenClaim := { program := "ytihjjkoddphmiaadoor", sum := "e04cb40a4098b3b51b42e1779e762d4769c5ca45e5b2304da385cc47f84e9063", func := "midden/middenlaw16.ImageChecks", spec := "imageChecks", unfollowed := true, recurses := true, named := ["midden/cell.widths", "midden/cell.needs"], apart := false, laid := [("midden/cell.widths", laid_midden_cell_widths), ("midden/cell.needs", laid_midden_cell_needs)] }
def ImageChecksSaid : Prop := imageChecksRow.holds Tryd.pinned (OpenSpec.ofChange imageChecksSpec)

/-- ITS FALSE NEIGHBOUR: 'it returns false'. Refute it at one input. -/
def imageChecksWrong : ChangeSpec := { name := "imageChecks", fn := fun _ => fun
  | [d] => { results := [.lit (.bool false)], args := [d] }
  | _ => none }
def ImageChecksWrongFalsely : Prop := imageChecksRow.holds Tryd.pinned (OpenSpec.ofChange imageChecksWrong)

/-- 'middenlaw16.ImageWrites': WHATEVER THE INPUT: true; the input reads as it did. -/
def imageWritesSpec : ChangeSpec := { name := "imageWrites", fn := fun _ => fun
  | [d] => { results := [.lit (.bool true)], args := [d] }
  | _ => none }
def imageWritesRow : OpenClaim := { program := "ytihjjkoddphmiaadoor", sum := "e04cb40a4098b3b51b42e1779e762d4769c5ca45e5b2304da385cc47f84e9063", func := "midden/middenlaw16.ImageWrites", spec := "imageWrites", unfollowed := true, recurses := true, named := ["midden/cell.widths", "midden/cell.needs"], apart := false, laid := [("midden/cell.widths", laid_midden_cell_widths), ("midden/cell.needs", laid_midden_cell_needs)] }
def ImageWritesSaid : Prop := imageWritesRow.holds Tryd.pinned (OpenSpec.ofChange imageWritesSpec)

/-- ITS FALSE NEIGHBOUR: 'it returns false'. Refute it at one input. -/
def imageWritesWrong : ChangeSpec := { name := "imageWrites", fn := fun _ => fun
  | [d] => { results := [.lit (.bool false)], args := [d] }
  | _ => none }
def ImageWritesWrongFalsely : Prop := imageWritesRow.holds Tryd.pinned (OpenSpec.ofChange imageWritesWrong)

/-- 'middenlaw16.ImageReads': WHATEVER THE INPUT: true; the input reads as it did. -/
def imageReadsSpec : ChangeSpec := { name := "imageReads", fn := fun _ => fun
  | [d] => { results := [.lit (.bool true)], args := [d] }
  | _ => none }
def imageReadsRow : OpenClaim := { program := "ytihjjkoddphmiaadoor", sum := "e04cb40a4098b3b51b42e1779e762d4769c5ca45e5b2304da385cc47f84e9063", func := "midden/middenlaw16.ImageReads", spec := "imageReads", unfollowed := true, recurses := true, named := ["midden/cell.widths", "midden/cell.needs"], apart := false, laid := [("midden/cell.widths", laid_midden_cell_widths), ("midden/cell.needs", laid_midden_cell_needs)] }
def ImageReadsSaid : Prop := imageReadsRow.holds Tryd.pinned (OpenSpec.ofChange imageReadsSpec)

/-- ITS FALSE NEIGHBOUR: 'it returns false'. Refute it at one input. -/
def imageReadsWrong : ChangeSpec := { name := "imageReads", fn := fun _ => fun
  | [d] => { results := [.lit (.bool false)], args := [d] }
  | _ => none }
def ImageReadsWrongFalsely : Prop := imageReadsRow.holds Tryd.pinned (OpenSpec.ofChange imageReadsWrong)

/-- 'middenlaw16.ImageRound': WHATEVER THE INPUT: true; the input reads as it did. -/
def imageRoundSpec : ChangeSpec := { name := "imageRound", fn := fun _ => fun
  | [d] => { results := [.lit (.bool true)], args := [d] }
  | _ => none }
def imageRoundRow : OpenClaim := { program := "ytihjjkoddphmiaadoor", sum := "e04cb40a4098b3b51b42e1779e762d4769c5ca45e5b2304da385cc47f84e9063", func := "midden/middenlaw16.ImageRound", spec := "imageRound", unfollowed := true, recurses := true, named := ["midden/cell.widths", "midden/cell.needs"], apart := false, laid := [("midden/cell.widths", laid_midden_cell_widths), ("midden/cell.needs", laid_midden_cell_needs)] }
def ImageRoundSaid : Prop := imageRoundRow.holds Tryd.pinned (OpenSpec.ofChange imageRoundSpec)

/-- ITS FALSE NEIGHBOUR: 'it returns false'. Refute it at one input. -/
def imageRoundWrong : ChangeSpec := { name := "imageRound", fn := fun _ => fun
  | [d] => { results := [.lit (.bool false)], args := [d] }
  | _ => none }
def ImageRoundWrongFalsely : Prop := imageRoundRow.holds Tryd.pinned (OpenSpec.ofChange imageRoundWrong)

/-- 'middenlaw16.ImageOne': WHATEVER THE INPUT: true; the input reads as it did. -/
def imageOneSpec : ChangeSpec := { name := "imageOne", fn := fun _ => fun
  | [d] => { results := [.lit (.bool true)], args := [d] }
  | _ => none }
def imageOneRow : OpenClaim := { program := "ytihjjkoddphmiaadoor", sum := "e04cb40a4098b3b51b42e1779e762d4769c5ca45e5b2304da385cc47f84e9063", func := "midden/middenlaw16.ImageOne", spec := "imageOne", unfollowed := true, recurses := true, named := ["midden/cell.widths", "midden/cell.needs"], apart := false, laid := [("midden/cell.widths", laid_midden_cell_widths), ("midden/cell.needs", laid_midden_cell_needs)] }
def ImageOneSaid : Prop := imageOneRow.holds Tryd.pinned (OpenSpec.ofChange imageOneSpec)

/-- ITS FALSE NEIGHBOUR: 'it returns false'. Refute it at one input. -/
def imageOneWrong : ChangeSpec := { name := "imageOne", fn := fun _ => fun
  | [d] => { results := [.lit (.bool false)], args := [d] }
  | _ => none }
def ImageOneWrongFalsely : Prop := imageOneRow.holds Tryd.pinned (OpenSpec.ofChange imageOneWrong)

/-- 'middenlaw16.ImageTorn': WHATEVER THE INPUT: true; the input reads as it did. -/
def imageTornSpec : ChangeSpec := { name := "imageTorn", fn := fun _ => fun
  | [d1, d2, d3, d4] => { results := [.lit (.bool true)], args := [d1, d2, d3, d4] }
  | _ => none }
def imageTornRow : OpenClaim := { program := "ytihjjkoddphmiaadoor", sum := "e04cb40a4098b3b51b42e1779e762d4769c5ca45e5b2304da385cc47f84e9063", func := "midden/middenlaw16.ImageTorn", spec := "imageTorn", unfollowed := true, recurses := true, named := ["midden/cell.widths", "midden/cell.needs"], apart := false, laid := [("midden/cell.widths", laid_midden_cell_widths), ("midden/cell.needs", laid_midden_cell_needs)] }
def ImageTornSaid : Prop := imageTornRow.holds Tryd.pinned (OpenSpec.ofChange imageTornSpec)

/-- ITS FALSE NEIGHBOUR: 'it returns false'. Refute it at one input. -/
def imageTornWrong : ChangeSpec := { name := "imageTorn", fn := fun _ => fun
  | [d1, d2, d3, d4] => { results := [.lit (.bool false)], args := [d1, d2, d3, d4] }
  | _ => none }
def ImageTornWrongFalsely : Prop := imageTornRow.holds Tryd.pinned (OpenSpec.ofChange imageTornWrong)

/- THE SECOND FORM. 'bulk': how many values and letters a reading holds, each counted each time it is reached (what is shared counts as often as it is met; a slice's spare places count too). A statement '..UptoSaid' is the law's where the arguments, and the package variables that the reading takes, are together of bulk at most 1048576: NARROWER than '..Said'. Prove '..Said' where nothing that the law and all that it calls make is longer than what came in: it says more and counts as full. Else prove '..UptoSaid'. A law counts once. -/
mutual
def uptoBulk {H : Type} : DataW H → Nat
  | .lit (.string bytes) => bytes.length + 1
  | .lit _ => 1
  | .nil => 1
  | .ptr d => uptoBulk d + 1
  | .slice elems spare => uptoBulkAll elems + uptoBulkAll spare + 1
  | .agg parts => uptoBulkAll parts + 1
  | .iface _ d => uptoBulk d + 1
  | .map entries => uptoBulkEntries entries + 1
  | .held _ => 1
def uptoBulkAll {H : Type} : List (DataW H) → Nat
  | [] => 0
  | d :: r => uptoBulk d + uptoBulkAll r
def uptoBulkEntries {H : Type} : List (Lit × DataW H) → Nat
  | [] => 0
  | x :: r => uptoBulkEntry x + uptoBulkEntries r
def uptoBulkEntry {H : Type} : Lit × DataW H → Nat
  | (.string bytes, d) => bytes.length + uptoBulk d + 1
  | (_, d) => uptoBulk d + 1
 end
def uptoSmall : (H : Type) → List (DataW H) → Bool := fun _ ds => decide (uptoBulkAll ds ≤ 1048576)
def OpenSpec.upto (s : _root_.Go.ChangeSpec) : _root_.Go.OpenSpec := { _root_.Go.OpenSpec.ofChange s with cond := some uptoSmall }

/-- 'middenlaw16.ImageChecks', WHERE WHAT IT READS IS OF BULK AT MOST 1048576: true; the input reads as it did. -/
def imageChecksUptoRow : OpenClaim := { program := "ytihjjkoddphmiaadoor", sum := "e04cb40a4098b3b51b42e1779e762d4769c5ca45e5b2304da385cc47f84e9063", func := "midden/middenlaw16.ImageChecks", spec := "imageChecks", unfollowed := true, recurses := true, named := ["midden/cell.widths", "midden/cell.needs"], apart := false, laid := [("midden/cell.widths", laid_midden_cell_widths), ("midden/cell.needs", laid_midden_cell_needs)], narrowed := true }
def ImageChecksUptoSaid : Prop := imageChecksUptoRow.holds Tryd.pinned (OpenSpec.upto imageChecksSpec)

/-- 'middenlaw16.ImageWrites', WHERE WHAT IT READS IS OF BULK AT MOST 1048576: true; the input reads as it did. -/
def imageWritesUptoRow : OpenClaim := { program := "ytihjjkoddphmiaadoor", sum := "e04cb40a4098b3b51b42e1779e762d4769c5ca45e5b2304da385cc47f84e9063", func := "midden/middenlaw16.ImageWrites", spec := "imageWrites", unfollowed := true, recurses := true, named := ["midden/cell.widths", "midden/cell.needs"], apart := false, laid := [("midden/cell.widths", laid_midden_cell_widths), ("midden/cell.needs", laid_midden_cell_needs)], narrowed := true }
def ImageWritesUptoSaid : Prop := imageWritesUptoRow.holds Tryd.pinned (OpenSpec.upto imageWritesSpec)

/-- 'middenlaw16.ImageReads', WHERE WHAT IT READS IS OF BULK AT MOST 1048576: true; the input reads as it did. -/
def imageReadsUptoRow : OpenClaim := { program := "ytihjjkoddphmiaadoor", sum := "e04cb40a4098b3b51b42e1779e762d4769c5ca45e5b2304da385cc47f84e9063", func := "midden/middenlaw16.ImageReads", spec := "imageReads", unfollowed := true, recurses := true, named := ["midden/cell.widths", "midden/cell.needs"], apart := false, laid := [("midden/cell.widths", laid_midden_cell_widths), ("midden/cell.needs", laid_midden_cell_needs)], narrowed := true }
def ImageReadsUptoSaid : Prop := imageReadsUptoRow.holds Tryd.pinned (OpenSpec.upto imageReadsSpec)

/-- 'middenlaw16.ImageRound', WHERE WHAT IT READS IS OF BULK AT MOST 1048576: true; the input reads as it did. -/
def imageRoundUptoRow : OpenClaim := { program := "ytihjjkoddphmiaadoor", sum := "e04cb40a4098b3b51b42e1779e762d4769c5ca45e5b2304da385cc47f84e9063", func := "midden/middenlaw16.ImageRound", spec := "imageRound", unfollowed := true, recurses := true, named := ["midden/cell.widths", "midden/cell.needs"], apart := false, laid := [("midden/cell.widths", laid_midden_cell_widths), ("midden/cell.needs", laid_midden_cell_needs)], narrowed := true }
def ImageRoundUptoSaid : Prop := imageRoundUptoRow.holds Tryd.pinned (OpenSpec.upto imageRoundSpec)

/-- 'middenlaw16.ImageOne', WHERE WHAT IT READS IS OF BULK AT MOST 1048576: true; the input reads as it did. -/
def imageOneUptoRow : OpenClaim := { program := "ytihjjkoddphmiaadoor", sum := "e04cb40a4098b3b51b42e1779e762d4769c5ca45e5b2304da385cc47f84e9063", func := "midden/middenlaw16.ImageOne", spec := "imageOne", unfollowed := true, recurses := true, named := ["midden/cell.widths", "midden/cell.needs"], apart := false, laid := [("midden/cell.widths", laid_midden_cell_widths), ("midden/cell.needs", laid_midden_cell_needs)], narrowed := true }
def ImageOneUptoSaid : Prop := imageOneUptoRow.holds Tryd.pinned (OpenSpec.upto imageOneSpec)

/-- 'middenlaw16.ImageTorn', WHERE WHAT IT READS IS OF BULK AT MOST 1048576: true; the input reads as it did. -/
def imageTornUptoRow : OpenClaim := { program := "ytihjjkoddphmiaadoor", sum := "e04cb40a4098b3b51b42e1779e762d4769c5ca45e5b2304da385cc47f84e9063", func := "midden/middenlaw16.ImageTorn", spec := "imageTorn", unfollowed := true, recurses := true, named := ["midden/cell.widths", "midden/cell.needs"], apart := false, laid := [("midden/cell.widths", laid_midden_cell_widths), ("midden/cell.needs", laid_midden_cell_needs)], narrowed := true }
def ImageTornUptoSaid : Prop := imageTornUptoRow.holds Tryd.pinned (OpenSpec.upto imageTornSpec)

end Rows
end Go.Proofs.YtihjjkoddphmiaaDoor
