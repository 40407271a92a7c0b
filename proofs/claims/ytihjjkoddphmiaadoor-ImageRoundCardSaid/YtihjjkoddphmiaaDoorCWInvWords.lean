-- Printed by the kit's print.sh, then cut by wip/gen/trim_words.py: theorems that no text of this claim names are left out.
import Derived.Test.YtihjjkoddphmiaaDoorCWInv
import Derived.Test.YtihjjkoddphmiaaDoorCWFootNe
namespace Go.Proofs.YtihjjkoddphmiaaDoorW.PrintWords
open Go.RowKit
end Go.Proofs.YtihjjkoddphmiaaDoorW.PrintWords
namespace Go.Proofs.YtihjjkoddphmiaaDoorW.PrintLast
section
variable {ops : Array Oper} {a : Act} {o og : Oper} {g : Nat} {t : Tmp} {u : Bool}
end
end Go.Proofs.YtihjjkoddphmiaaDoorW.PrintLast
