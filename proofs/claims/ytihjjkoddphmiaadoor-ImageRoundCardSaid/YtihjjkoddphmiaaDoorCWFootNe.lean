-- Printed by the kit's print.sh, then cut by wip/gen/trim_words.py: theorems that no text of this claim names are left out.
import Derived.Test.YtihjjkoddphmiaaDoorCWN
/-! ### 52. A row that stays read whatever happens to a block (a set of blocks) doesn't lie there -/
namespace Go.Proofs.YtihjjkoddphmiaaDoorW.PrintWords
open Go.RowKit
namespace Kd
section
variable {α : Type} {d : Kd α} {W : World} {g n : Nat} {S ok : Nat → Prop} {A : Option Addr} {ad : Addr} {xs : List α}
end
end Kd
end Go.Proofs.YtihjjkoddphmiaaDoorW.PrintWords
