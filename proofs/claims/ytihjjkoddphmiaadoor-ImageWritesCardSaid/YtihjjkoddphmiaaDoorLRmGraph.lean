/-
  The walk of the room's Graph.
-/
import Derived.Test.YtihjjkoddphmiaaDoorLRmObj
import Derived.Laws.Rows
import Derived.Laws.CopyRow
namespace Go.Proofs.YtihjjkoddphmiaaDoor.img
open Go.RowKit Go.Proofs.YtihjjkoddphmiaaDoorW.PrintWords Go.Proofs.YtihjjkoddphmiaaDoorW.PrintLast Go.Proofs.YtihjjkoddphmiaaDoorW.PrintMore Go.Proofs.YtihjjkoddphmiaaDoor.PImageRound
set_option linter.unusedVariables false
set_option linter.unusedSimpArgs false

/-- Six cells of a block. -/
abbrev S6 (b : Nat) (v0 v1 v2 v3 v4 v5 : Value) (w' : World) : Prop :=
  w'.cell? ⟨b, 0, none⟩ = some v0 ∧ w'.cell? ⟨b, 1, none⟩ = some v1 ∧ w'.cell? ⟨b, 2, none⟩ = some v2 ∧ w'.cell? ⟨b, 3, none⟩ = some v3 ∧ w'.cell? ⟨b, 4, none⟩ = some v4 ∧ w'.cell? ⟨b, 5, none⟩ = some v5
theorem S6.of {b t : Nat} {v0 v1 v2 v3 v4 v5 : Value} {w' : World} (h : w'.heap[b]? = some (.cells #[v0, v1, v2, v3, v4, v5] t (0, 0))) : S6 b v0 v1 v2 v3 v4 v5 w' :=
  ⟨(blk_cell h 0).trans rfl, (blk_cell h 1).trans rfl, (blk_cell h 2).trans rfl, (blk_cell h 3).trans rfl, (blk_cell h 4).trans rfl, (blk_cell h 5).trans rfl⟩

theorem six_far {w : World} {g b t : Nat} {cs : Array Value} {v0 v1 v2 v3 v4 v5 : Value} (hne : b ≠ g) (h : w.heap[b]? = some (.cells cs t (0, 0))) : ((((((w.setCell ⟨g, 0, none⟩ v0).setCell ⟨g, 1, none⟩ v1).setCell ⟨g, 2, none⟩ v2).setCell ⟨g, 3, none⟩ v3).setCell ⟨g, 4, none⟩ v4).setCell ⟨g, 5, none⟩ v5).heap[b]? = some (.cells cs t (0, 0)) :=
  blk_far (blk_far (blk_far (blk_far (blk_far (blk_far h hne _) hne _) hne _) hne _) hne _) hne _
theorem six_grown {w : World} {g : Nat} {v0 v1 v2 v3 v4 v5 : Value} : w.grownBy ((((((w.setCell ⟨g, 0, none⟩ v0).setCell ⟨g, 1, none⟩ v1).setCell ⟨g, 2, none⟩ v2).setCell ⟨g, 3, none⟩ v3).setCell ⟨g, 4, none⟩ v4).setCell ⟨g, 5, none⟩ v5) (some g) := by
  have h : ∀ (W : World) (i : Nat) (u : Value), W.grownBy (W.setCell ⟨g, i, none⟩ u) (some g) := fun W i u => ⟨rfl, rfl, rfl, by simp [World.setCell], fun k _ hk => Below.heap_setCell W ⟨g, i, none⟩ u k (fun e => hk (by rw [e]))⟩
  exact (((((h _ _ _).trans (h _ _ _)).trans (h _ _ _)).trans (h _ _ _)).trans (h _ _ _)).trans (h _ _ _)
theorem six_at {w : World} {g t : Nat} {u0 u1 u2 u3 u4 u5 v0 v1 v2 v3 v4 v5 : Value} (h : w.heap[g]? = some (.cells #[u0, u1, u2, u3, u4, u5] t (0, 0))) : ((((((w.setCell ⟨g, 0, none⟩ v0).setCell ⟨g, 1, none⟩ v1).setCell ⟨g, 2, none⟩ v2).setCell ⟨g, 3, none⟩ v3).setCell ⟨g, 4, none⟩ v4).setCell ⟨g, 5, none⟩ v5).heap[g]? = some (.cells #[v0, v1, v2, v3, v4, v5] t (0, 0)) :=
  blk_set (blk_set (blk_set (blk_set (blk_set (blk_set h 0 v0) 1 v1) 2 v2) 3 v3) 4 v4) 5 v5
/-- What the copy of a graph leaves. -/
def LendsG (g : Gr) (w : World) (ρ : Nat → Role) (base r : Nat) (e : Ending) (w' : World) : Prop :=
  ∃ ρ' C' M, e = .returned (.agg (gcells M g).toArray) ∧ Rm w' ρ' base r C' 4000000000000 ∧ Ext w ρ w' ρ' ∧ Below base w w' ∧ Lent w' ρ' M g

/-- Between the calls: the room, and the two blocks of the call's own. -/
structure Gq (w : World) (ρ : Nat → Role) (base r : Nat) (cs : Array Value) (wr : World) (ρr : Nat → Role) (C : Array Value) (K : Nat) : Prop where
  rm : Rm wr ρr base r C K
  ext : Ext w ρ wr ρr
  bel : Below base w wr
  blk : wr.heap[w.heap.size]? = some (.cells cs 27 (0, 0))
  out : wr.heap[w.heap.size + 1]? = some (.cells #[.slice none 0 0, .slice none 0 0, .slice none 0 0, .slice none 0 0, .slice none 0 0, .int .u64 0] 27 (0, 0))
  role : ρr w.heap.size = .work ∧ ρr (w.heap.size + 1) = .work
theorem Gq.call {w wr w2 : World} {ρ ρr ρ2 : Nat → Role} {base r K K2 : Nat} {cs C C2 : Array Value} (h : Gq w ρ base r cs wr ρr C K) (hR : Rm w2 ρ2 base r C2 K2) (hE : Ext wr ρr w2 ρ2) (hB : Below base wr w2) : Gq w ρ base r cs w2 ρ2 C2 K2 :=
  ⟨hR, h.ext.trans hE, h.bel.trans hB, (hE.keep _ (blk_lt h.blk) (by rw [h.role.1]; intro e; cases e)).trans h.blk, (hE.keep _ (blk_lt h.out) (by rw [h.role.2]; intro e; cases e)).trans h.out, (hE.same _ (blk_lt h.blk)).trans h.role.1, (hE.same _ (blk_lt h.out)).trans h.role.2⟩

theorem Gq.fin {w wr : World} {ρ ρr : Nat → Role} {base r K : Nat} {cs C : Array Value} (h : Gq w ρ base r cs wr ρr C K) (v0 v1 v2 v3 v4 v5 : Value) :
    wr.grownBy ((((((wr.setCell ⟨w.heap.size + 1, 0, none⟩ v0).setCell ⟨w.heap.size + 1, 1, none⟩ v1).setCell ⟨w.heap.size + 1, 2, none⟩ v2).setCell ⟨w.heap.size + 1, 3, none⟩ v3).setCell ⟨w.heap.size + 1, 4, none⟩ v4).setCell ⟨w.heap.size + 1, 5, none⟩ v5) (some (w.heap.size + 1)) ∧
    S6 (w.heap.size + 1) v0 v1 v2 v3 v4 v5 ((((((wr.setCell ⟨w.heap.size + 1, 0, none⟩ v0).setCell ⟨w.heap.size + 1, 1, none⟩ v1).setCell ⟨w.heap.size + 1, 2, none⟩ v2).setCell ⟨w.heap.size + 1, 3, none⟩ v3).setCell ⟨w.heap.size + 1, 4, none⟩ v4).setCell ⟨w.heap.size + 1, 5, none⟩ v5) ∧
    ∀ k, some (w.heap.size + 1) = some k → ρr k = .work :=
  ⟨six_grown, S6.of (six_at h.out), fun k hk => by
    injection hk with hk
    rw [← hk]
    exact h.role.2⟩
set_option maxHeartbeats 16000000 in
set_option maxRecDepth 100000 in
theorem Graph_any (wb : World) (r : Nat) (C : Array Value) (ρ : Nat → Role) (L : Lay) (g : Gr) (w : World) (hbw : Below wb.heap.size wb w) (hRm : Rm w ρ wb.heap.size r C 0) (hm : Tame g) (hR : Rd wb L g) :
    Calls Tryd.prog 10 #[.pointer (some ⟨r, 0, none⟩), .agg (gcells L g).toArray] w (LendsG g w ρ wb.heap.size r) := by
  obtain ⟨A0, A1, A2, A3, A4, c0, c1, c2, c3, c4⟩ := L
  have HRd := Aside0.mk hR
  have HW := Aside0.mk hbw
  have HM := Aside0.mk hm
  have HS : Aside0 (Gq w ρ wb.heap.size r #[.slice A0 g.objs.length c0, .slice A1 g.slots.length c1, .slice A2 g.handles.length c2, .slice A3 g.registry.length c3, .slice A4 g.queue.length c4, .int .u64 g.next] (((w.alloc (.cells #[.slice A0 g.objs.length c0, .slice A1 g.slots.length c1, .slice A2 g.handles.length c2, .slice A3 g.registry.length c3, .slice A4 g.queue.length c4, .int .u64 g.next] 27)).alloc (.cells #[.slice none 0 0, .slice none 0 0, .slice none 0 0, .slice none 0 0, .slice none 0 0, .int .u64 0] 27)).drew) ρ C 0) := ⟨by
    have hb : Below w.heap.size w (((w.alloc (.cells #[.slice A0 g.objs.length c0, .slice A1 g.slots.length c1, .slice A2 g.handles.length c2, .slice A3 g.registry.length c3, .slice A4 g.queue.length c4, .int .u64 g.next] 27)).alloc (.cells #[.slice none 0 0, .slice none 0 0, .slice none 0 0, .slice none 0 0, .slice none 0 0, .int .u64 0] 27)).drew) := below_drew (below_alloc (below_alloc (Below.refl _ _) _) _)
    refine ⟨hRm.below hb, Ext.below hb, hb.mono hRm.low_size, blk_drew (blk_alloc (heap_alloc_new w _) _), blk_drew ?_, hRm.fresh _ (Nat.le_refl _), hRm.fresh _ (by omega)⟩
    have := heap_alloc_new (w.alloc (.cells #[.slice A0 g.objs.length c0, .slice A1 g.slots.length c1, .slice A2 g.handles.length c2, .slice A3 g.registry.length c3, .slice A4 g.queue.length c4, .int .u64 g.next] 27)) (.cells #[.slice none 0 0, .slice none 0 0, .slice none 0 0, .slice none 0 0, .slice none 0 0, .int .u64 0] 27)
    simpa using this⟩
  clear hR hbw hm hRm
  have HC0 := Aside0.mk (Objects_any wb r 0 C ρ A0 c0 g.objs _ (HW.out.trans HS.out.bel) HS.out.rm HM.out.mild.objs HM.out.objs HRd.out.r0 (by omega))
  go_enter Tryd.func10, Tryd.ntmps10
  go_wp2_with (fail)
  go_region_held3 (S6 w.heap.size (.slice A0 g.objs.length c0) (.slice A1 g.slots.length c1) (.slice A2 g.handles.length c2) (.slice A3 g.registry.length c3) (.slice A4 g.queue.length c4) (.int .u64 g.next)) (first | (with_reducible exact S6.of HS.out.blk) | (with_reducible exact S6.of HQ1.out.blk) | (with_reducible exact S6.of HQ2.out.blk) | (with_reducible exact S6.of HQ3.out.blk) | (with_reducible exact S6.of HQ4.out.blk) | (with_reducible exact S6.of HQ5.out.blk) | exact S6.of (six_far (by omega) HQ5.out.blk))
    (first
    | (go_at_call 24; (with_reducible refine HC0.out.mono ?_); rintro en w1 ⟨ρ1, C1, u1, rfl, hR1, hE1, hB1, hu1⟩; have HU1 := Aside0.mk hu1; obtain ⟨f1, cf1, _, _, rfl, -⟩ := hu1; have HQ1 := Aside0.mk (HS.out.call hR1 hE1 hB1); have HE1 := Aside0.mk hE1; have HC1 := Aside0.mk (Frames_any wb r _ C1 ρ1 A1 c1 g.slots w1 (HW.out.trans HQ1.out.bel) HQ1.out.rm HM.out.mild.slots (fun l hl => ⟨HM.out.mild.frames l hl, HM.out.mild.slot l hl⟩) HRd.out.r1 (by have := HM.out.mild.objs; omega)))
    | (go_at_call 25; (with_reducible refine HC1.out.mono ?_); rintro en w2 ⟨ρ2, C2, u2, rfl, hR2, hE2, hB2, hu2⟩; have HU2 := Aside0.mk hu2; obtain ⟨f2, cf2, _, _, rfl, -⟩ := hu2; have HQ2 := Aside0.mk (HQ1.out.call hR2 hE2 hB2); have HE2 := Aside0.mk hE2; have HC2 := Aside0.mk (Ints_any wb.heap.size r _ C2 ρ2 A2 c2 g.handles w2 HQ2.out.rm HM.out.mild.handles (Kd.C_below HRd.out.r2 (HW.out.trans HQ2.out.bel)) (by have := HM.out.mild.objs; have := HM.out.mild.slots; omega)))
    | (go_at_call 26; (with_reducible refine HC2.out.mono ?_); rintro en w3 ⟨ρ3, C3, u3, rfl, hR3, hE3, hB3, hu3⟩; have HU3 := Aside0.mk hu3; obtain ⟨f3, cf3, _, _, rfl, -⟩ := hu3; have HQ3 := Aside0.mk (HQ2.out.call hR3 hE3 hB3); have HE3 := Aside0.mk hE3; have HC3 := Aside0.mk (Ints_any wb.heap.size r _ C3 ρ3 A3 c3 g.registry w3 HQ3.out.rm HM.out.mild.registry (Kd.C_below HRd.out.r3 (HW.out.trans HQ3.out.bel)) (by have := HM.out.mild.objs; have := HM.out.mild.slots; omega)))
    | (go_at_call 26; (with_reducible refine HC3.out.mono ?_); rintro en w4 ⟨ρ4, C4, u4, rfl, hR4, hE4, hB4, hu4⟩; have HU4 := Aside0.mk hu4; obtain ⟨f4, cf4, _, _, rfl, -⟩ := hu4; have HQ4 := Aside0.mk (HQ3.out.call hR4 hE4 hB4); have HE4 := Aside0.mk hE4; have HC4 := Aside0.mk (Ints_any wb.heap.size r _ C4 ρ4 A4 c4 g.queue w4 HQ4.out.rm HM.out.mild.queue (Kd.C_below HRd.out.r4 (HW.out.trans HQ4.out.bel)) (by have := HM.out.mild.objs; have := HM.out.mild.slots; omega)))
    | (go_at_call 26; (with_reducible refine HC4.out.mono ?_); rintro en w5 ⟨ρ5, C5, u5, rfl, hR5, hE5, hB5, hu5⟩; have HU5 := Aside0.mk hu5; obtain ⟨f5, cf5, _, _, rfl, -⟩ := hu5; have HQ5 := Aside0.mk (HQ4.out.call hR5 hE5 hB5); have HE5 := Aside0.mk hE5; obtain ⟨z0, z1, z2, z3, z4, z5⟩ := S6.of HQ5.out.out; have y0 := blk_frozen HQ5.out.out 0; have y1 := blk_frozen HQ5.out.out 1; have y2 := blk_frozen HQ5.out.out 2; have y3 := blk_frozen HQ5.out.out 3; have y4 := blk_frozen HQ5.out.out 4; have y5 := blk_frozen HQ5.out.out 5)
    | (fail))
  have HF := Aside0.mk (HQ5.out.fin (.slice (some ⟨f1, 0, none⟩) g.objs.length cf1) (.slice (some ⟨f2, 0, none⟩) g.slots.length cf2) (.slice (some ⟨f3, 0, none⟩) g.handles.length cf3) (.slice (some ⟨f4, 0, none⟩) g.registry.length cf4) (.slice (some ⟨f5, 0, none⟩) g.queue.length cf5) (.int .u64 g.next))
  clear z0 z1 z2 z3 z4 z5 y0 y1 y2 y3 y4 y5
  revert HF
  generalize ((((((w5.setCell ⟨w.heap.size + 1, 0, none⟩ (.slice (some ⟨f1, 0, none⟩) g.objs.length cf1)).setCell ⟨w.heap.size + 1, 1, none⟩ (.slice (some ⟨f2, 0, none⟩) g.slots.length cf2)).setCell ⟨w.heap.size + 1, 2, none⟩ (.slice (some ⟨f3, 0, none⟩) g.handles.length cf3)).setCell ⟨w.heap.size + 1, 3, none⟩ (.slice (some ⟨f4, 0, none⟩) g.registry.length cf4)).setCell ⟨w.heap.size + 1, 4, none⟩ (.slice (some ⟨f5, 0, none⟩) g.queue.length cf5)).setCell ⟨w.heap.size + 1, 5, none⟩ (.int .u64 g.next)) = W
  intro HF
  go_wp2_with (fail)
  refine bodyPost_ret (v := .agg (gcells ⟨some ⟨f1, 0, none⟩, some ⟨f2, 0, none⟩, some ⟨f3, 0, none⟩, some ⟨f4, 0, none⟩, some ⟨f5, 0, none⟩, cf1, cf2, cf3, cf4, cf5⟩ g).toArray) (by obtain ⟨o0, o1, o2, o3, o4, o5⟩ := HF.out.2.1; simp [results, Tryd.results10, go_sem, o0, o1, o2, o3, o4, o5]) rfl ?_
  have hl := Lies.grown HF.out.1 HF.out.2.2
  have l5 := hl
  have l4 := HE5.out.lies.trans l5
  have l3 := HE4.out.lies.trans l4
  have l2 := HE3.out.lies.trans l3
  have l1 := HE2.out.lies.trans l2
  refine ⟨ρ5, C5, _, rfl, (HQ5.out.rm.grown HF.out.1 HF.out.2.2).more (by have := HM.out.mild.objs; have := HM.out.mild.slots; omega), HQ5.out.ext.grown HF.out.1 (fun k hk hlt => ?_), HQ5.out.bel.grown HF.out.1 HQ5.out.rm.low_size (fun k hk => ?_), LO.stay _ _ _ _ _ _ l1 HU1.out, LS.stay _ _ _ _ _ _ l2 HU2.out, LI.stay _ _ _ _ _ _ _ _ l3 HU3.out, LI.stay _ _ _ _ _ _ _ _ l4 HU4.out, LI.stay _ _ _ _ _ _ _ _ l5 HU5.out⟩
  · injection hk with hk
    omega
  · injection hk with hk
    have := HW.out.size
    omega
end Go.Proofs.YtihjjkoddphmiaaDoor.img
