import Derived.Test.YtihjjkoddphmiaaDoorMIm2
import Derived.StillTailTactics
import Derived.Deep.RegionHeld3
import Derived.Test.YtihjjkoddphmiaaDoorMIm1
import Derived.ArgAppend
import Derived.Lib.SlBytesConst
import Derived.Test.YtihjjkoddphmiaaDoorMIm3
namespace Go.Proofs.YtihjjkoddphmiaaDoor.img
open Go.RowKit Go.Proofs.YtihjjkoddphmiaaDoorW.PrintWords Go.Proofs.YtihjjkoddphmiaaDoorW.PrintMore Go.Proofs.YtihjjkoddphmiaaDoor.PImageRound
set_option linter.unusedVariables false
set_option linter.unusedSimpArgs false

end Go.Proofs.YtihjjkoddphmiaaDoor.img

namespace Go.Proofs.YtihjjkoddphmiaaDoor.img
open Go.RowKit Go.Proofs.YtihjjkoddphmiaaDoorW.PrintWords Go.Proofs.YtihjjkoddphmiaaDoorW.PrintMore Go.Proofs.YtihjjkoddphmiaaDoor.PImageRound
set_option linter.unusedVariables false
set_option linter.unusedSimpArgs false

end Go.Proofs.YtihjjkoddphmiaaDoor.img

namespace Go.Proofs.YtihjjkoddphmiaaDoor.img
open Go.RowKit Go.Proofs.YtihjjkoddphmiaaDoorW.PrintWords Go.Proofs.YtihjjkoddphmiaaDoorW.PrintMore Go.Proofs.YtihjjkoddphmiaaDoor.PImageRound
set_option linter.unusedVariables false
set_option linter.unusedSimpArgs false

end Go.Proofs.YtihjjkoddphmiaaDoor.img

namespace Go.Proofs.YtihjjkoddphmiaaDoor.img
open Go.RowKit Go.Proofs.YtihjjkoddphmiaaDoorW.PrintWords Go.Proofs.YtihjjkoddphmiaaDoorW.PrintMore Go.Proofs.YtihjjkoddphmiaaDoor.PImageRound
set_option linter.unusedVariables false
set_option linter.unusedSimpArgs false

end Go.Proofs.YtihjjkoddphmiaaDoor.img

namespace Go.Proofs.YtihjjkoddphmiaaDoor.img
open Go.RowKit Go.Proofs.YtihjjkoddphmiaaDoorW.PrintWords Go.Proofs.YtihjjkoddphmiaaDoorW.PrintMore Go.Proofs.YtihjjkoddphmiaaDoor.PImageRound
set_option linter.unusedVariables false
set_option linter.unusedSimpArgs false

section
variable {σ α : Type}
end

end Go.Proofs.YtihjjkoddphmiaaDoor.img

namespace Go.Proofs.YtihjjkoddphmiaaDoor.img
open Go.RowKit Go.Proofs.YtihjjkoddphmiaaDoorW.PrintWords Go.Proofs.YtihjjkoddphmiaaDoorW.PrintMore Go.Proofs.YtihjjkoddphmiaaDoor.PImageRound
set_option linter.unusedVariables false
set_option linter.unusedSimpArgs false

section
variable {P : Program} {ops : Array Oper} {rest : List Oper} {o : Oper} {a : Act} {Q : Exit → Act → World → Prop}
end

end Go.Proofs.YtihjjkoddphmiaaDoor.img

namespace Go.Proofs.YtihjjkoddphmiaaDoor.img
open Go.RowKit Go.Proofs.YtihjjkoddphmiaaDoorW.PrintWords Go.Proofs.YtihjjkoddphmiaaDoorW.PrintMore Go.Proofs.YtihjjkoddphmiaaDoor.PImageRound
set_option linter.unusedVariables false
set_option linter.unusedSimpArgs false

theorem ahead_r (a : Addr) (w : World) : (nilAhead 250 91 (.pointer (some a)) "midden/image.number").run Tryd.prog w = .ok (some false) w := by kernel_rfl
section
variable {w0 wi wj : World} {gw gg gq gf : Nat} {cg : Array Value} {us vs : List Int}
end

section
variable {w0 wi wj : World} {gw gg gq gf : Nat} {cg : Array Value} {us vs : List Int}
end

/-- What is laid down of a graph behind the head. -/
def rest (g : Gr) : List Int := enc g.next.toNat ++ ((enc g.objs.length ++ encOs 0 g.objs) ++ (encL (encL (encL (encI 0))) g.slots ++ (encL (encI 1) g.handles ++ encL (encI 0) g.queue)))

end Go.Proofs.YtihjjkoddphmiaaDoor.img
