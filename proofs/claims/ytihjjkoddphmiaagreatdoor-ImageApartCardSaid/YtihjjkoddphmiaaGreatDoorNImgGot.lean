/-
  What Read hands back may be written.
-/
import Derived.Test.YtihjjkoddphmiaaGreatDoorNIm5
namespace Go.Proofs.YtihjjkoddphmiaaGreatDoor.img
open Go.RowKit Go.Proofs.YtihjjkoddphmiaaGreatDoorW.PrintWords Go.Proofs.YtihjjkoddphmiaaGreatDoorW.PrintLast Go.Proofs.YtihjjkoddphmiaaGreatDoorW.PrintMore Go.Proofs.YtihjjkoddphmiaaGreatDoor.PImageApart
set_option linter.unusedVariables false
set_option linter.unusedSimpArgs false

/-- What was handed back can be read and written. -/
structure Fair (w : World) (L : Lay) (g : Gr) : Prop where
 rd : Rd w L g
 h0 : NFO w L.A0 g.objs.length
 h1 : NF3 w L.A1 g.slots.length
 h2 : NF w L.A2 g.handles.length
 h4 : NF w L.A4 g.queue.length
end Go.Proofs.YtihjjkoddphmiaaGreatDoor.img
