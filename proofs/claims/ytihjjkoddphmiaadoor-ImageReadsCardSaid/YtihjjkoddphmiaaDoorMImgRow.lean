/-
  What the rows share: the two tables, a world that holds them.
-/
import Derived.Test.YtihjjkoddphmiaaDoorCards
import Derived.Test.YtihjjkoddphmiaaDoorTie
import Derived.Test.YtihjjkoddphmiaaDoorMIm3
import Derived.WalkKit
import Derived.ProofKit
import Derived.OpenShut
import Derived.ChangeOld
import Derived.Below
import Derived.SizedLaws
import Derived.Deep.DeepHandedRow
import Derived.Lib.LaidTab
namespace Go.Proofs.YtihjjkoddphmiaaDoor.img
open Go.ChangeShapes Go.WideShapes Go.ChangeAt Go.RowKit
set_option linter.unusedVariables false

theorem own : ownKnob Tryd.prog.godebug = none := by kernel_rfl
theorem laidOut : laidOutB Tryd.prog = true := by kernel_rfl
theorem gW : Tryd.prog.globalNamed "midden/cell.widths" = some 0 := by kernel_rfl
theorem gN : Tryd.prog.globalNamed "midden/cell.needs" = some 1 := by kernel_rfl
theorem laid_tail {P : Program} {W : World} {x : String × DataW Unit} {rest : List (String × DataW Unit)} (h : laidMet P (x :: rest) W) : laidMet P rest W := by
 obtain ⟨ps, ⟨g', t', cs, fuel, p, q, hg', ht', hvar, hd, hr, rfl⟩, hn, hk⟩ := h
 exact ⟨q, hr, (List.nodup_append.1 hn).2.1, fun b off hm => hk b off (List.mem_append_right _ hm)⟩
abbrev tables : List (String × DataW Unit) := [("midden/cell.widths", Rows.laid_midden_cell_widths), ("midden/cell.needs", Rows.laid_midden_cell_needs)]
theorem tabs_of_laid {W : World} (h : laidMet Tryd.prog tables W) : Tabs W := by
 have h1 : Lib.TabIs Tryd.prog W "midden/cell.widths" .i64 [3, 1, 4, 8, 12, 16] :=
  Lib.tabIs_of_head (g := 0) (t := 132) (e := 3) (n := 6) (rest := [("midden/cell.needs", Rows.laid_midden_cell_needs)]) gW (by kernel_rfl) (by kernel_rfl) (by kernel_rfl) (by kernel_rfl) (by kernel_rfl) h
 have h2 : Lib.TabIs Tryd.prog W "midden/cell.needs" .i64 [-1, 0, 1, 2, 0] :=
  Lib.tabIs_of_head (g := 1) (t := 134) (e := 3) (n := 5) (rest := []) gN (by kernel_rfl) (by kernel_rfl) (by kernel_rfl) (by kernel_rfl) (by kernel_rfl) (laid_tail h)
 refine ⟨fun j x hx => ?_, fun j x hx => ?_⟩
 ·obtain ⟨hj, e⟩ := List.getElem?_eq_some_iff.1 hx
  have := h1.cell gW j hj
  rw [List.getD_eq_getElem?_getD, hx] at this
  exact this
 ·obtain ⟨hj, e⟩ := List.getElem?_eq_some_iff.1 hx
  have := h2.cell gN j hj
  rw [List.getD_eq_getElem?_getD, hx] at this
  exact this

/-- A block with other cells. -/
def relay (cs : Array Value) : Obj → Obj
 | .cells _ t frozen => .cells cs t frozen
 | o => o
/-- A world for the witnesses: the settled one, both tables (blocks 0 and 1) holding what their initialisers lay. -/
noncomputable def laidWorld (os : Os) : World :=
 { World.holding Tryd.prog os ⟨#[], #[], []⟩ with heap := ((World.holding Tryd.prog os ⟨#[], #[], []⟩).heap.modify 0 (relay #[.int .i64 3, .int .i64 1, .int .i64 4, .int .i64 8, .int .i64 12, .int .i64 16])).modify 1 (relay #[.int .i64 (-1), .int .i64 0, .int .i64 1, .int .i64 2, .int .i64 0]) }
theorem laid_met (os : Os) (args : Array Value) : laidMet Tryd.prog tables ((laidWorld os).forCall (fun _ _ => 0) ⟨#[], args, []⟩).memory :=
 laidMet_of_run' 8 (by kernel_rfl) (by kernel_rfl)

def IsRow (k : IntKind) (w : World) (a : Option Addr) (len cap : Nat) (zs : List Int) : Prop :=
 (a = none ∧ len = 0 ∧ cap = 0 ∧ zs = []) ∨
 ∃ x, a = some x ∧ len ≤ cap ∧ cap ≤ maxLen ∧ zs.length = cap ∧ (∀ i, i < zs.length → w.cell? (x.add i) = some (.int k (zs.getD i 0))) ∧ ∀ n ∈ zs, (Lit.int k n).wf = true
end Go.Proofs.YtihjjkoddphmiaaDoor.img
