-- Printed by the kit's print.sh, then cut by wip/gen/trim_words.py: theorems that no text of this claim names are left out.
import Derived.Test.YtihjjkoddphmiaaDoorCWWords
import Derived.Laws.StructEq
/-! ### 53. '==' of structs as_ one Bool -/
namespace Go.Proofs.YtihjjkoddphmiaaDoorW.PrintWords
open Go.RowKit
section
variable {P : Program} {d : Nat} {xs ys : Array Value} {f : Field} {fs : List Field} {a b : Value} {r s : Bool} {w : World}
end
end Go.Proofs.YtihjjkoddphmiaaDoorW.PrintWords
