/-
  What the walks of ImageRound and ImageTorn share: small, the law's own variable.
-/
import Derived.Test.YtihjjkoddphmiaaDoorLImgL7
namespace Go.Proofs.YtihjjkoddphmiaaDoor.img
open Go.RowKit Go.Proofs.YtihjjkoddphmiaaDoorW.PrintWords Go.Proofs.YtihjjkoddphmiaaDoorW.PrintLast Go.Proofs.YtihjjkoddphmiaaDoorW.PrintMore Go.Proofs.YtihjjkoddphmiaaDoor.PImageRound
set_option linter.unusedVariables false
set_option linter.unusedSimpArgs false

theorem small_any {L : Lay} {g : Gr} (hrm : Roomy g) : ∃ r, (r = true → total g ≤ 16384) ∧ ∀ w, Rd w L g → Calls Tryd.prog 9 #[.agg (gcells L g).toArray] w fun e w' => e = .returned (.bool r) ∧ Below w.heap.size w w' := by
  obtain ⟨r, hev, hr⟩ := size_ev g hrm
  obtain ⟨k, hk⟩ := hev.rounds
  refine ⟨r, hr, fun w h => ?_⟩
  exact middenlaw16_small.calls k L.A0 L.c0 g.objs L.A1 L.c1 g.slots L.A2 L.c2 g.handles L.A3 L.c3 g.registry L.A4 L.c4 g.queue g.next r w h.r0 h.h0 h.r1 h.h1 h.r2 h.h2 h.r3 h.h3 h.r4 h.h4 hk

/-- The law's own variable that holds the graph. -/
structure Box (w w' : World) (v0 v1 v2 v3 v4 v5 : Value) : Prop where
  bel : Below w.heap.size w w'
  blk : w'.heap[w.heap.size]? = some (.cells #[v0, v1, v2, v3, v4, v5] 27 (0, 0))
theorem Box.below {w w' w'' : World} {v0 v1 v2 v3 v4 v5 : Value} (h : Box w w' v0 v1 v2 v3 v4 v5) (hb : Below w'.heap.size w' w'') : Box w w'' v0 v1 v2 v3 v4 v5 := ⟨below_step h.bel hb, blk_below h.blk hb⟩
theorem Box.cells {w w' : World} {v0 v1 v2 v3 v4 v5 : Value} (h : Box w w' v0 v1 v2 v3 v4 v5) : w'.cell? ⟨w.heap.size, 0, none⟩ = some v0 ∧ w'.cell? ⟨w.heap.size, 1, none⟩ = some v1 ∧ w'.cell? ⟨w.heap.size, 2, none⟩ = some v2 ∧ w'.cell? ⟨w.heap.size, 3, none⟩ = some v3 ∧ w'.cell? ⟨w.heap.size, 4, none⟩ = some v4 ∧ w'.cell? ⟨w.heap.size, 5, none⟩ = some v5 :=
  ⟨(blk_cell h.blk 0).trans rfl, (blk_cell h.blk 1).trans rfl, (blk_cell h.blk 2).trans rfl, (blk_cell h.blk 3).trans rfl, (blk_cell h.blk 4).trans rfl, (blk_cell h.blk 5).trans rfl⟩

end Go.Proofs.YtihjjkoddphmiaaDoor.img
