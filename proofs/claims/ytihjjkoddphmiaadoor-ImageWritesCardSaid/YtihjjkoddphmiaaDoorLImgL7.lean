/-
  The walk of middenlaw16.ImageOne, fn 7.
-/
import Derived.Test.YtihjjkoddphmiaaDoorLImgGot
namespace Go.Proofs.YtihjjkoddphmiaaDoor.img
open Go.RowKit Go.Proofs.YtihjjkoddphmiaaDoorW.PrintWords Go.Proofs.YtihjjkoddphmiaaDoorW.PrintLast Go.Proofs.YtihjjkoddphmiaaDoorW.PrintMore Go.Proofs.YtihjjkoddphmiaaDoor.PImageRound
set_option linter.unusedVariables false
set_option linter.unusedSimpArgs false

theorem Got.below {w w' w'' : World} {g : Gr} {v0 v1 v2 v3 v4 : Value} (h : Got w w' g v0 v1 v2 v3 v4) (hb : Below w'.heap.size w' w'') : Got w w'' g v0 v1 v2 v3 v4 :=
  ⟨Kd.R_below h.r0 hb, Kd.R_below h.r1 hb, Kd.R_below h.r2 hb, Kd.R_below h.r3 hb, Kd.R_below h.r4 hb⟩
end Go.Proofs.YtihjjkoddphmiaaDoor.img
