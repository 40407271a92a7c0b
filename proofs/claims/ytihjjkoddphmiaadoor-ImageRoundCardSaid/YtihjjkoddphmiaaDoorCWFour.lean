-- Printed by the kit's print.sh, then cut by wip/gen/trim_words.py: theorems that no text of this claim names are left out.
import Derived.Test.YtihjjkoddphmiaaDoorCWTab
/-! ### 56. Four, five, six operations that may come up next, in any order -/
namespace Go.Proofs.YtihjjkoddphmiaaDoorW.PrintLast
section
variable {P : Program} {ops : Array Oper} {Q : Exit → Act → World → Prop} {md : Region.Mode} {S : World → Prop} {ds : List Nat} {T : Bool × List (List Nat × List Nat)}
end
end Go.Proofs.YtihjjkoddphmiaaDoorW.PrintLast
