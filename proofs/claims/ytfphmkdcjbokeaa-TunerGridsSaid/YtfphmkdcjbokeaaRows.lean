/-
  No cell of these rows narrows 'for every input' (looked for: loops, veiled, ifaces, maps, wideKeys, modest, calm, conditions, laid).
  DERIVED. THE GIVEN ROWS OF THIS SEAT. 7 by the template 'for every input the law returns true; each argument reads behind the call as it read before'; 0 by the template 'total and deterministic' (their statements: YtfphmkdcjbokeaaTotals.lean).
  GIVEN WITH THE SEED: the statements are not yours to turn. If you find one false, say at which input.
  Laid BY PROGRAM, IN A SANDBOX (cutbox-rows.mjs): the forced cells as the released guide's own fill.sh prints them over the translation 029712f0de9bc740… (all of the seat's roots in one cut). By AI agents, Wed Nov 11 2026. No macro, syntax, notation, axiom, sorry.
-/
import Derived.Test.YtfphmkdcjbokeaaChecked
import GoSem.Claim
import GoSem.ClaimJoined
import GoSem.ClaimMapViews
import Derived.JoinedTies
import Derived.KernelRfl
namespace Go.Proofs.Ytfphmkdcjbokeaa
/- THE CELL 'sum', in the pinned program and in every row, IS THE sha256 OF THE DUMP (.gsa) THAT YtfphmkdcjbokeaaProg.lean LOADS. Nothing in Lean hashes anything: it is a label: what it is worth is what the hold of that sum in a sandbox is worth. -/
noncomputable def Try.pinned : Pinned := { name := "ytfphmkdcjbokeaa", sum := "029712f0de9bc74014373de623c77a2be6973c518430cd0941691c513dc9ed09", checked := Try.checked }
namespace Rows
def none {H : Type} : Left H := { results := [], args := [] }

/-- 'middenlaw14.HeapNames': WHATEVER THE INPUT: true; the input reads as it did. -/
def heapNamesSpec : ChangeSpec := { name := "heapNames", fn := fun _ => fun
  | [] => { results := [.lit (.bool true)], args := [] }
  | _ => none }
def heapNamesRow : OpenClaim := { program := "ytfphmkdcjbokeaa", sum := "029712f0de9bc74014373de623c77a2be6973c518430cd0941691c513dc9ed09", func := "midden/middenlaw14.HeapNames", spec := "heapNames", apart := false }
def HeapNamesSaid : Prop := heapNamesRow.holds Try.pinned (OpenSpec.ofChange heapNamesSpec)

/-- ITS FALSE NEIGHBOUR: 'it returns false'. Refute it at one input. -/
def heapNamesWrong : ChangeSpec := { name := "heapNames", fn := fun _ => fun
  | [] => { results := [.lit (.bool false)], args := [] }
  | _ => none }
def HeapNamesWrongFalsely : Prop := heapNamesRow.holds Try.pinned (OpenSpec.ofChange heapNamesWrong)

/-- 'middenlaw16.ImageNames': WHATEVER THE INPUT: true; the input reads as it did. -/
def imageNamesSpec : ChangeSpec := { name := "imageNames", fn := fun _ => fun
  | [] => { results := [.lit (.bool true)], args := [] }
  | _ => none }
def imageNamesRow : OpenClaim := { program := "ytfphmkdcjbokeaa", sum := "029712f0de9bc74014373de623c77a2be6973c518430cd0941691c513dc9ed09", func := "midden/middenlaw16.ImageNames", spec := "imageNames", apart := false }
def ImageNamesSaid : Prop := imageNamesRow.holds Try.pinned (OpenSpec.ofChange imageNamesSpec)

/-- ITS FALSE NEIGHBOUR: 'it returns false'. Refute it at one input. -/
def imageNamesWrong : ChangeSpec := { name := "imageNames", fn := fun _ => fun
  | [] => { results := [.lit (.bool false)], args := [] }
  | _ => none }
def ImageNamesWrongFalsely : Prop := imageNamesRow.holds Try.pinned (OpenSpec.ofChange imageNamesWrong)

/-- 'middenlaw19.MutatorNames': WHATEVER THE INPUT: true; the input reads as it did. -/
def mutatorNamesSpec : ChangeSpec := { name := "mutatorNames", fn := fun _ => fun
  | [] => { results := [.lit (.bool true)], args := [] }
  | _ => none }
def mutatorNamesRow : OpenClaim := { program := "ytfphmkdcjbokeaa", sum := "029712f0de9bc74014373de623c77a2be6973c518430cd0941691c513dc9ed09", func := "midden/middenlaw19.MutatorNames", spec := "mutatorNames", apart := false }
def MutatorNamesSaid : Prop := mutatorNamesRow.holds Try.pinned (OpenSpec.ofChange mutatorNamesSpec)

/-- ITS FALSE NEIGHBOUR: 'it returns false'. Refute it at one input. -/
def mutatorNamesWrong : ChangeSpec := { name := "mutatorNames", fn := fun _ => fun
  | [] => { results := [.lit (.bool false)], args := [] }
  | _ => none }
def MutatorNamesWrongFalsely : Prop := mutatorNamesRow.holds Try.pinned (OpenSpec.ofChange mutatorNamesWrong)

/-- 'middenlaw20.LedgerNames': WHATEVER THE INPUT: true; the input reads as it did. -/
def ledgerNamesSpec : ChangeSpec := { name := "ledgerNames", fn := fun _ => fun
  | [] => { results := [.lit (.bool true)], args := [] }
  | _ => none }
def ledgerNamesRow : OpenClaim := { program := "ytfphmkdcjbokeaa", sum := "029712f0de9bc74014373de623c77a2be6973c518430cd0941691c513dc9ed09", func := "midden/middenlaw20.LedgerNames", spec := "ledgerNames", apart := false }
def LedgerNamesSaid : Prop := ledgerNamesRow.holds Try.pinned (OpenSpec.ofChange ledgerNamesSpec)

/-- ITS FALSE NEIGHBOUR: 'it returns false'. Refute it at one input. -/
def ledgerNamesWrong : ChangeSpec := { name := "ledgerNames", fn := fun _ => fun
  | [] => { results := [.lit (.bool false)], args := [] }
  | _ => none }
def LedgerNamesWrongFalsely : Prop := ledgerNamesRow.holds Try.pinned (OpenSpec.ofChange ledgerNamesWrong)

/-- 'middenlaw21.TunerNames': WHATEVER THE INPUT: true; the input reads as it did. -/
def tunerNamesSpec : ChangeSpec := { name := "tunerNames", fn := fun _ => fun
  | [] => { results := [.lit (.bool true)], args := [] }
  | _ => none }
def tunerNamesRow : OpenClaim := { program := "ytfphmkdcjbokeaa", sum := "029712f0de9bc74014373de623c77a2be6973c518430cd0941691c513dc9ed09", func := "midden/middenlaw21.TunerNames", spec := "tunerNames", apart := false }
def TunerNamesSaid : Prop := tunerNamesRow.holds Try.pinned (OpenSpec.ofChange tunerNamesSpec)

/-- ITS FALSE NEIGHBOUR: 'it returns false'. Refute it at one input. -/
def tunerNamesWrong : ChangeSpec := { name := "tunerNames", fn := fun _ => fun
  | [] => { results := [.lit (.bool false)], args := [] }
  | _ => none }
def TunerNamesWrongFalsely : Prop := tunerNamesRow.holds Try.pinned (OpenSpec.ofChange tunerNamesWrong)

/-- 'middenlaw21.TunerBetters': WHATEVER THE INPUT: true; the input reads as it did. -/
def tunerBettersSpec : ChangeSpec := { name := "tunerBetters", fn := fun _ => fun
  | [d1, d2, d3] => { results := [.lit (.bool true)], args := [d1, d2, d3] }
  | _ => none }
def tunerBettersRow : OpenClaim := { program := "ytfphmkdcjbokeaa", sum := "029712f0de9bc74014373de623c77a2be6973c518430cd0941691c513dc9ed09", func := "midden/middenlaw21.TunerBetters", spec := "tunerBetters", apart := false }
def TunerBettersSaid : Prop := tunerBettersRow.holds Try.pinned (OpenSpec.ofChange tunerBettersSpec)

/-- ITS FALSE NEIGHBOUR: 'it returns false'. Refute it at one input. -/
def tunerBettersWrong : ChangeSpec := { name := "tunerBetters", fn := fun _ => fun
  | [d1, d2, d3] => { results := [.lit (.bool false)], args := [d1, d2, d3] }
  | _ => none }
def TunerBettersWrongFalsely : Prop := tunerBettersRow.holds Try.pinned (OpenSpec.ofChange tunerBettersWrong)

/-- 'middenlaw21.TunerGrids': WHATEVER THE INPUT: true; the input reads as it did. -/
def tunerGridsSpec : ChangeSpec := { name := "tunerGrids", fn := fun _ => fun
  | [d] => { results := [.lit (.bool true)], args := [d] }
  | _ => none }
def tunerGridsRow : OpenClaim := { program := "ytfphmkdcjbokeaa", sum := "029712f0de9bc74014373de623c77a2be6973c518430cd0941691c513dc9ed09", func := "midden/middenlaw21.TunerGrids", spec := "tunerGrids", unfollowed := true, recurses := true, apart := false }
def TunerGridsSaid : Prop := tunerGridsRow.holds Try.pinned (OpenSpec.ofChange tunerGridsSpec)

/-- ITS FALSE NEIGHBOUR: 'it returns false'. Refute it at one input. -/
def tunerGridsWrong : ChangeSpec := { name := "tunerGrids", fn := fun _ => fun
  | [d] => { results := [.lit (.bool false)], args := [d] }
  | _ => none }
def TunerGridsWrongFalsely : Prop := tunerGridsRow.holds Try.pinned (OpenSpec.ofChange tunerGridsWrong)

/- THE SECOND FORM. 'bulk': how many values and letters a reading holds, each counted each time it is reached (what is shared counts as often as it is met; a slice's spare places count too). A statement '..UptoSaid' is the law's where the arguments, and the package variables that the reading takes, are together of bulk at most 1048576: NARROWER than '..Said'. Prove '..Said' where nothing that the law and all that it calls make is longer than what came in: it says more and counts as full. Else prove '..UptoSaid'. A law counts once. -/
mutual
def uptoBulk {H : Type} : DataW H → Nat
  | .lit (.string bytes) => bytes.length + 1
  | .lit _ => 1
  | .nil => 1
  | .ptr d => uptoBulk d + 1
  | .slice elems spare => uptoBulkAll elems + uptoBulkAll spare + 1
  | .agg parts => uptoBulkAll parts + 1
  | .iface _ d => uptoBulk d + 1
  | .map entries => uptoBulkEntries entries + 1
  | .held _ => 1
def uptoBulkAll {H : Type} : List (DataW H) → Nat
  | [] => 0
  | d :: r => uptoBulk d + uptoBulkAll r
def uptoBulkEntries {H : Type} : List (Lit × DataW H) → Nat
  | [] => 0
  | x :: r => uptoBulkEntry x + uptoBulkEntries r
def uptoBulkEntry {H : Type} : Lit × DataW H → Nat
  | (.string bytes, d) => bytes.length + uptoBulk d + 1
  | (_, d) => uptoBulk d + 1
 end
def uptoSmall : (H : Type) → List (DataW H) → Bool := fun _ ds => decide (uptoBulkAll ds ≤ 1048576)
def OpenSpec.upto (s : _root_.Go.ChangeSpec) : _root_.Go.OpenSpec := { _root_.Go.OpenSpec.ofChange s with cond := some uptoSmall }

/-- 'middenlaw14.HeapNames', WHERE WHAT IT READS IS OF BULK AT MOST 1048576: true; the input reads as it did. -/
def heapNamesUptoRow : OpenClaim := { program := "ytfphmkdcjbokeaa", sum := "029712f0de9bc74014373de623c77a2be6973c518430cd0941691c513dc9ed09", func := "midden/middenlaw14.HeapNames", spec := "heapNames", apart := false, narrowed := true }
def HeapNamesUptoSaid : Prop := heapNamesUptoRow.holds Try.pinned (OpenSpec.upto heapNamesSpec)

/-- 'middenlaw16.ImageNames', WHERE WHAT IT READS IS OF BULK AT MOST 1048576: true; the input reads as it did. -/
def imageNamesUptoRow : OpenClaim := { program := "ytfphmkdcjbokeaa", sum := "029712f0de9bc74014373de623c77a2be6973c518430cd0941691c513dc9ed09", func := "midden/middenlaw16.ImageNames", spec := "imageNames", apart := false, narrowed := true }
def ImageNamesUptoSaid : Prop := imageNamesUptoRow.holds Try.pinned (OpenSpec.upto imageNamesSpec)

/-- 'middenlaw19.MutatorNames', WHERE WHAT IT READS IS OF BULK AT MOST 1048576: true; the input reads as it did. -/
def mutatorNamesUptoRow : OpenClaim := { program := "ytfphmkdcjbokeaa", sum := "029712f0de9bc74014373de623c77a2be6973c518430cd0941691c513dc9ed09", func := "midden/middenlaw19.MutatorNames", spec := "mutatorNames", apart := false, narrowed := true }
def MutatorNamesUptoSaid : Prop := mutatorNamesUptoRow.holds Try.pinned (OpenSpec.upto mutatorNamesSpec)

/-- 'middenlaw20.LedgerNames', WHERE WHAT IT READS IS OF BULK AT MOST 1048576: true; the input reads as it did. -/
def ledgerNamesUptoRow : OpenClaim := { program := "ytfphmkdcjbokeaa", sum := "029712f0de9bc74014373de623c77a2be6973c518430cd0941691c513dc9ed09", func := "midden/middenlaw20.LedgerNames", spec := "ledgerNames", apart := false, narrowed := true }
def LedgerNamesUptoSaid : Prop := ledgerNamesUptoRow.holds Try.pinned (OpenSpec.upto ledgerNamesSpec)

/-- 'middenlaw21.TunerNames', WHERE WHAT IT READS IS OF BULK AT MOST 1048576: true; the input reads as it did. -/
def tunerNamesUptoRow : OpenClaim := { program := "ytfphmkdcjbokeaa", sum := "029712f0de9bc74014373de623c77a2be6973c518430cd0941691c513dc9ed09", func := "midden/middenlaw21.TunerNames", spec := "tunerNames", apart := false, narrowed := true }
def TunerNamesUptoSaid : Prop := tunerNamesUptoRow.holds Try.pinned (OpenSpec.upto tunerNamesSpec)

/-- 'middenlaw21.TunerBetters', WHERE WHAT IT READS IS OF BULK AT MOST 1048576: true; the input reads as it did. -/
def tunerBettersUptoRow : OpenClaim := { program := "ytfphmkdcjbokeaa", sum := "029712f0de9bc74014373de623c77a2be6973c518430cd0941691c513dc9ed09", func := "midden/middenlaw21.TunerBetters", spec := "tunerBetters", apart := false, narrowed := true }
def TunerBettersUptoSaid : Prop := tunerBettersUptoRow.holds Try.pinned (OpenSpec.upto tunerBettersSpec)

/-- 'middenlaw21.TunerGrids', WHERE WHAT IT READS IS OF BULK AT MOST 1048576: true; the input reads as it did. -/
def tunerGridsUptoRow : OpenClaim := { program := "ytfphmkdcjbokeaa", sum := "029712f0de9bc74014373de623c77a2be6973c518430cd0941691c513dc9ed09", func := "midden/middenlaw21.TunerGrids", spec := "tunerGrids", unfollowed := true, recurses := true, apart := false, narrowed := true }
def TunerGridsUptoSaid : Prop := tunerGridsUptoRow.holds Try.pinned (OpenSpec.upto tunerGridsSpec)

end Rows
end Go.Proofs.Ytfphmkdcjbokeaa
