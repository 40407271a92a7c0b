/-
  The walk of middenlaw16.ImageChecks, fn 3.
-/
import Derived.Test.YtihjjkoddphmiaaDoorKImgLs
import Derived.Test.YtihjjkoddphmiaaDoorKImgSg
import Derived.Test.YtihjjkoddphmiaaDoorKRefCheck
import Derived.Test.YtihjjkoddphmiaaDoorKRmTurn
namespace Go.Proofs.YtihjjkoddphmiaaDoor.img
open Go.RowKit Go.Proofs.YtihjjkoddphmiaaDoorW.PrintWords Go.Proofs.YtihjjkoddphmiaaDoorW.PrintLast Go.Proofs.YtihjjkoddphmiaaDoorW.PrintMore Go.Proofs.YtihjjkoddphmiaaDoor.PImageRound
set_option linter.unusedVariables false
set_option linter.unusedSimpArgs false

theorem flatten_len (l : List (List Int)) : l.flatten.length = sumF l := by
  induction l with
  | nil => rfl
  | cons a r ih => rw [List.flatten_cons, List.length_append, ih]; simp [sumF]
theorem flat2_len (l : List (List (List Int))) : l.flatten.flatten.length ≤ sumS l := by
  induction l with
  | nil => simp [sumS]
  | cons a r ih =>
    rw [List.flatten_cons, List.flatten_append, List.length_append, flatten_len a]
    simp only [sumS, List.map_cons, List.sum_cons] at ih ⊢
    omega
theorem root_total (g : Gr) : (rootL g).length ≤ total g := by
  have := flat2_len g.slots
  simp only [rootL, List.length_append]
  unfold total
  omega
theorem sim_total {g g' : Gr} (h : Sim g g') : total g' = total g := by
  have e1 : ∀ l : List S62, sumO l = ((l.map osh).map fun p => p.2.2.1 + p.2.2.2).sum := fun l => by
    unfold sumO
    rw [List.map_map]
    rfl
  have e2 : ∀ l : List (List (List Int)), sumS l = ((l.map (List.map List.length)).map fun p => p.length + p.sum).sum := fun l => by
    unfold sumS sumF
    rw [List.map_map]
    congr 1
    apply List.map_congr_left
    intro x _
    simp
  have l0 : g'.objs.length = g.objs.length := by simpa using congrArg List.length h.objs
  have l1 : g'.slots.length = g.slots.length := by simpa using congrArg List.length h.slots
  unfold total
  rw [e1, e1, e2, e2, h.objs, h.slots, h.handles, h.registry, h.queue, l0, l1]

/-- A room that was made just now. -/
abbrev room0 : Array Value := #[.slice none 0 0, .slice none 0 0, .slice none 0 0, .slice none 0 0, .slice none 0 0, .slice none 0 0, .slice none 0 0, .slice none 0 0]
def role0 (r : Nat) : Nat → Role := fun k => if k = r then .own else .work
theorem Rm.start (w : World) : Rm (w.alloc (.cells room0 38)) (role0 w.heap.size) w.heap.size w.heap.size room0 0 := by
  refine ⟨heap_alloc_new w _, Nat.le_refl _, if_pos rfl, fun k hk => if_neg (by simp at hk; omega), rfl, rfl, rfl, fun f m hf => ?_, fun x hx => ?_⟩
  · unfold role0 at hf
    split at hf <;> cases hf
  · have hn : ∀ (i e : Nat) (M : Mk), room0[i]? = some (.slice none 0 0) → Fld (w.alloc (.cells room0 38)) (role0 w.heap.size) w.heap.size room0 i e M 0 := fun i e M h =>
      ⟨_, [], h, own_nil _ _ _ _, Nat.le_refl _, fun k hk => by simp [Value.ownBlock] at hk, fun u hu => by simp at hu⟩
    simp only [flds, List.mem_cons, List.not_mem_nil, or_false] at hx
    rcases hx with rfl | rfl | rfl | rfl | rfl | rfl <;> exact hn _ _ _ rfl
/-- Lists that were lent lie in blocks. -/
theorem Lent.forms {w : World} {ρ : Nat → Role} {L : Lay} {g : Gr} (h : Lent w ρ L g) : ∃ f0 f1 f2 f3 f4 c0 c1 c2 c3 c4, L = ⟨some ⟨f0, 0, none⟩, some ⟨f1, 0, none⟩, some ⟨f2, 0, none⟩, some ⟨f3, 0, none⟩, some ⟨f4, 0, none⟩, c0, c1, c2, c3, c4⟩ := by
  obtain ⟨f0, c0, _, _, e0, -⟩ := h.l0
  obtain ⟨f1, c1, _, _, e1, -⟩ := h.l1
  obtain ⟨f2, c2, _, _, e2, -⟩ := h.l2
  obtain ⟨f3, c3, _, _, e3, -⟩ := h.l3
  obtain ⟨f4, c4, _, _, e4, -⟩ := h.l4
  injection e0 with e0 _ q0; injection e1 with e1 _ q1; injection e2 with e2 _ q2; injection e3 with e3 _ q3; injection e4 with e4 _ q4
  obtain ⟨A0, A1, A2, A3, A4, d0, d1, d2, d3, d4⟩ := L
  simp only at e0 e1 e2 e3 e4 q0 q1 q2 q3 q4
  subst e0 e1 e2 e3 e4 q0 q1 q2 q3 q4
  exact ⟨_, _, _, _, _, _, _, _, _, _, rfl⟩

/-- While the law looks: its argument, the lent graph's variable (block b), the room. -/
structure Lq (w : World) (v0 v1 v2 v3 v4 v5 m0 m1 m2 m3 m4 m5 : Value) (b base r : Nat) (ρ : Nat → Role) (C : Array Value) (M : Lay) (g : Gr) (wr : World) : Prop where
  bx : Bx w wr v0 v1 v2 v3 v4 v5
  lb : wr.heap[b]? = some (.cells #[m0, m1, m2, m3, m4, m5] 27 (0, 0))
  rm : Rm wr ρ base r C 4000000000000
  lent : Lent wr ρ M g
theorem Lq.below {w wr w2 : World} {v0 v1 v2 v3 v4 v5 m0 m1 m2 m3 m4 m5 : Value} {b base r : Nat} {ρ : Nat → Role} {C : Array Value} {M : Lay} {g : Gr} (h : Lq w v0 v1 v2 v3 v4 v5 m0 m1 m2 m3 m4 m5 b base r ρ C M g wr) (hb : Below wr.heap.size wr w2) : Lq w v0 v1 v2 v3 v4 v5 m0 m1 m2 m3 m4 m5 b base r ρ C M g w2 :=
  ⟨h.bx.below hb, blk_below h.lb hb, h.rm.below hb, h.lent.stay (Ext.below hb).lies⟩
/-- What the region looks at. -/
abbrev S12 (a b : Nat) (v0 v1 v2 v3 v4 v5 m0 m1 m2 m3 m4 m5 : Value) (w' : World) : Prop :=
  w'.cell? ⟨a, 0, none⟩ = some v0 ∧ w'.cell? ⟨a, 1, none⟩ = some v1 ∧ w'.cell? ⟨a, 2, none⟩ = some v2 ∧ w'.cell? ⟨a, 3, none⟩ = some v3 ∧ w'.cell? ⟨a, 4, none⟩ = some v4 ∧ w'.cell? ⟨a, 5, none⟩ = some v5 ∧
  w'.cell? ⟨b, 0, none⟩ = some m0 ∧ w'.cell? ⟨b, 1, none⟩ = some m1 ∧ w'.cell? ⟨b, 2, none⟩ = some m2 ∧ w'.cell? ⟨b, 3, none⟩ = some m3 ∧ w'.cell? ⟨b, 4, none⟩ = some m4 ∧ w'.cell? ⟨b, 5, none⟩ = some m5
theorem Lq.cells {w wr : World} {v0 v1 v2 v3 v4 v5 m0 m1 m2 m3 m4 m5 : Value} {b base r : Nat} {ρ : Nat → Role} {C : Array Value} {M : Lay} {g : Gr} (h : Lq w v0 v1 v2 v3 v4 v5 m0 m1 m2 m3 m4 m5 b base r ρ C M g wr) : S12 w.heap.size b v0 v1 v2 v3 v4 v5 m0 m1 m2 m3 m4 m5 wr := by
  obtain ⟨k0, k1, k2, k3, k4, k5⟩ := h.bx.cells
  exact ⟨k0, k1, k2, k3, k4, k5, (blk_cell h.lb 0).trans rfl, (blk_cell h.lb 1).trans rfl, (blk_cell h.lb 2).trans rfl, (blk_cell h.lb 3).trans rfl, (blk_cell h.lb 4).trans rfl, (blk_cell h.lb 5).trans rfl⟩

theorem sim_cells (M : Lay) {g g' : Gr} (h : Sim g g') : gcells M g' = gcells M g := by
  have l0 : g'.objs.length = g.objs.length := by simpa using congrArg List.length h.objs
  have l1 : g'.slots.length = g.slots.length := by simpa using congrArg List.length h.slots
  unfold gcells
  rw [l0, l1, h.handles, h.registry, h.queue, h.next]
/-- Behind turn. -/
theorem Lq.turned {w wr w2 : World} {v0 v1 v2 v3 v4 v5 m0 m1 m2 m3 m4 m5 : Value} {b base r : Nat} {ρ : Nat → Role} {C : Array Value} {M : Lay} {g : Gr} (h : Lq w v0 v1 v2 v3 v4 v5 m0 m1 m2 m3 m4 m5 b base r ρ C M g wr) (hb : ρ b = .work) (hw : w.heap.size < base) (ht : Tq wr ρ base r C 4000000000000 M g w2) :
    ∃ g', Sim g g' ∧ Lq w v0 v1 v2 v3 v4 v5 m0 m1 m2 m3 m4 m5 b base r ρ C M g' w2 := by
  obtain ⟨g', hs, hl⟩ := ht.lent
  refine ⟨g', hs, ⟨h.bx.bel.trans (ht.bel.mono (by omega)), ?_⟩, ?_, ht.rm, hl⟩
  · refine (ht.keep _ (blk_lt h.bx.blk) (fun m hm => ?_)).trans h.bx.blk
    have := h.rm.fixed _ m hm
    omega
  · refine (ht.keep _ (blk_lt h.lb) (fun m hm => ?_)).trans h.lb
    rw [hb] at hm
    cases hm

set_option maxHeartbeats 16000000 in
set_option maxRecDepth 100000 in
theorem checks_any (L : Lay) (g : Gr) (w : World) (hR : Rd w L g) (hrm : Roomy g) (hT : Tabs w) :
    Calls Tryd.prog 3 #[.agg (gcells L g).toArray] w fun e w' => e = .returned (.bool true) ∧ Below w.heap.size w w' := by
  obtain ⟨r, hsm, hsmall⟩ := small_any (L := L) hrm
  have HSM := Aside0.mk (fun (w' : World) (hb : Below w.heap.size w w') => hsmall w' (hR.below hb))
  have HSR := Aside0.mk hsm
  have HR := Aside0.mk hR
  have HT := Aside0.mk hT
  obtain ⟨C, hC⟩ : ∃ C : List Value, gcells L g = C := ⟨_, rfl⟩
  have HC := Aside0.mk hC
  rw [hC] at HSM ⊢
  obtain ⟨v0, v1, v2, v3, v4, v5, rfl⟩ : ∃ v0 v1 v2 v3 v4 v5, C = [v0, v1, v2, v3, v4, v5] := ⟨_, _, _, _, _, _, hC.symm⟩
  clear hsm hsmall hR hrm hT hC
  have HB0 := Aside0.mk (Bx.start w v0 v1 v2 v3 v4 v5)
  obtain ⟨k0, k1, k2, k3, k4, k5⟩ := HB0.out.cells
  go_enter Tryd.func3, Tryd.ntmps3
  go_wp2_with (fail)
  refine (HSM.out _ HB0.out.bel).mono ?_
  rintro en w1 ⟨rfl, hb1⟩
  have HB1 := Aside0.mk (HB0.out.below hb1)
  clear hb1 HSM k0 k1 k2 k3 k4 k5 HB0
  obtain ⟨k0, k1, k2, k3, k4, k5⟩ := HB1.out.cells
  cases r with
  | false =>
    go_wp2_with (fail)
    go_ret
    exact ⟨rfl, HB1.out.bel⟩
  | true =>
    have htot := HSR.out (by trivial)
    have HTO := Aside0.mk htot
    have HNR := Aside0.mk (total_near htot)
    clear htot HSR
    have HRm := Aside0.mk (Rm.start w1)
    have HBR := Aside0.mk (HB1.out.below (below_alloc (Below.refl _ _) (.cells room0 38)))
    have HGC := Aside0.mk (Graph_any w1 w1.heap.size room0 (role0 w1.heap.size) L g (w1.alloc (.cells room0 38)) (below_alloc (Below.refl _ _) _) HRm.out HNR.out.tame (HR.out.below HB1.out.bel))
    rw [HC.out] at HGC
    clear k0 k1 k2 k3 k4 k5
    obtain ⟨k0, k1, k2, k3, k4, k5⟩ := HBR.out.cells
    go_wp2_with (fail)
    refine HGC.out.mono ?_
    rintro en w2 ⟨ρ1, C1, M, rfl, hRm1, hE1, hB1, hL1⟩
    obtain ⟨f0, f1, f2, f3, f4, c0, c1, c2, c3, c4, rfl⟩ := hL1.forms
    have hbx2 : Bx w w2 v0 v1 v2 v3 v4 v5 := by
      have hk : w2.heap[w.heap.size]? = (w1.alloc (.cells room0 38)).heap[w.heap.size]? := hE1.keep _ (blk_lt HBR.out.blk) (by
        have : w.heap.size < w1.heap.size := blk_lt HB1.out.blk
        unfold role0
        rw [if_neg (by omega)]
        intro e
        cases e)
      exact ⟨(HB1.out.bel.mono (Nat.le_refl _)).trans ((below_alloc (Below.refl _ _) (.cells room0 38)).mono HB1.out.bel.size |>.trans (hB1.mono HB1.out.bel.size)), hk.trans HBR.out.blk⟩
    have HL0 := Aside0.mk (show Lq w v0 v1 v2 v3 v4 v5 (.slice (some ⟨f0, 0, none⟩) g.objs.length c0) (.slice (some ⟨f1, 0, none⟩) g.slots.length c1) (.slice (some ⟨f2, 0, none⟩) g.handles.length c2) (.slice (some ⟨f3, 0, none⟩) g.registry.length c3) (.slice (some ⟨f4, 0, none⟩) g.queue.length c4) (.int .u64 g.next) w2.heap.size w1.heap.size w1.heap.size ρ1 C1 ⟨some ⟨f0, 0, none⟩, some ⟨f1, 0, none⟩, some ⟨f2, 0, none⟩, some ⟨f3, 0, none⟩, some ⟨f4, 0, none⟩, c0, c1, c2, c3, c4⟩ g (w2.alloc (.cells #[.slice (some ⟨f0, 0, none⟩) g.objs.length c0, .slice (some ⟨f1, 0, none⟩) g.slots.length c1, .slice (some ⟨f2, 0, none⟩) g.handles.length c2, .slice (some ⟨f3, 0, none⟩) g.registry.length c3, .slice (some ⟨f4, 0, none⟩) g.queue.length c4, .int .u64 g.next] 27)) from
      ⟨hbx2.below (below_alloc (Below.refl _ _) _), heap_alloc_new w2 _, hRm1.below (below_alloc (Below.refl _ _) _), hL1.stay (Ext.below (below_alloc (Below.refl _ _) _)).lies⟩)
    have HFR := Aside0.mk (hRm1.fresh w2.heap.size (Nat.le_refl _))
    have HWB0 : w.heap.size < w1.heap.size := blk_lt HB1.out.blk
    clear hbx2 hRm1 hE1 hB1 hL1 HGC HBR HB1 k0 k1 k2 k3 k4 k5
    obtain ⟨k0, k1, k2, k3, k4, k5, l0, l1, l2, l3, l4, l5⟩ := HL0.out.cells
    obtain ⟨ev, hev⟩ : ∃ ev : Int, (if okB g = true then 0 else 164) = ev := ⟨_, rfl⟩
    have HEV := Aside0.mk hev
    have HCK := Aside0.mk (Check_any ⟨some ⟨f0, 0, none⟩, some ⟨f1, 0, none⟩, some ⟨f2, 0, none⟩, some ⟨f3, 0, none⟩, some ⟨f4, 0, none⟩, c0, c1, c2, c3, c4⟩ g HNR.out.tame _ HL0.out.lent.rd (HT.out.below HL0.out.bx.bel))
    rw [hev] at HCK
    clear hev
    go_wp2_with (fail)
    refine HCK.out.mono ?_
    rintro en w3 ⟨rfl, hb3⟩
    have HL1 := Aside0.mk (HL0.out.below hb3)
    clear hb3 HL0 HCK k0 k1 k2 k3 k4 k5 l0 l1 l2 l3 l4 l5
    have HRC := Aside0.mk (fun (wx : World) (h : Below w.heap.size w wx) => RefCheck_any L g HNR.out.tame (by have := root_total g; have := HTO.out; omega) wx (HR.out.below h))
    have HSG := Aside0.mk (fun (wx : World) (h : Below w.heap.size w wx) (hl : Lent wx ρ1 ⟨some ⟨f0, 0, none⟩, some ⟨f1, 0, none⟩, some ⟨f2, 0, none⟩, some ⟨f3, 0, none⟩, some ⟨f4, 0, none⟩, c0, c1, c2, c3, c4⟩ g) => sameG_any (L := ⟨some ⟨f0, 0, none⟩, some ⟨f1, 0, none⟩, some ⟨f2, 0, none⟩, some ⟨f3, 0, none⟩, some ⟨f4, 0, none⟩, c0, c1, c2, c3, c4⟩) (M := L) HNR.out hl.rd (HR.out.below h))
    rw [HEV.out, HC.out] at HRC
    rw [HC.out] at HSG
    have HLD := Aside0.mk (HL1.out.below (below_drew (Below.refl _ _)))
    go_wp2_with (fail)
    go_region_held3 (S12 w.heap.size w2.heap.size v0 v1 v2 v3 v4 v5 (.slice (some ⟨f0, 0, none⟩) g.objs.length c0) (.slice (some ⟨f1, 0, none⟩) g.slots.length c1) (.slice (some ⟨f2, 0, none⟩) g.handles.length c2) (.slice (some ⟨f3, 0, none⟩) g.registry.length c3) (.slice (some ⟨f4, 0, none⟩) g.queue.length c4) (.int .u64 g.next)) (first | (with_reducible exact HLD.out.cells) | (with_reducible exact HL2.out.cells) | (with_reducible exact HL3.out.cells) | (with_reducible exact HL4.out.cells))
      (first
      | (go_at_call 12; (with_reducible refine (num_is _ _).mono ?_); rintro en w' ⟨rfl, rfl⟩)
      | (go_at_call 13; (with_reducible refine (HRC.out _ HLD.out.bx.bel).mono ?_); rintro en w4 ⟨rfl, hb4⟩; have HL2 := Aside0.mk (HLD.out.below hb4))
      | (go_at_call 14; (with_reducible refine (HSG.out _ HL2.out.bx.bel HL2.out.lent).mono ?_); rintro en w5 ⟨rfl, hb5⟩; have HL3 := Aside0.mk (HL2.out.below hb5))
      | (go_at_call 15; (with_reducible refine (Hold_any w1.heap.size w1.heap.size 4000000000000 C1 ρ1 _ HL3.out.rm (Nat.le_refl _)).mono ?_); rintro en w6 ⟨rfl, hb6⟩; have HL4 := Aside0.mk (HL3.out.below hb6))
      | (fail))
    have HWB : Aside0 (w.heap.size < w1.heap.size) := ⟨HWB0⟩
    clear HLD HL1 HL2 HL3 HRC HSG HEV
    obtain ⟨k0, k1, k2, k3, k4, k5, l0, l1, l2, l3, l4, l5⟩ := HL4.out.cells
    have HTU := Aside0.mk (turn_any w1.heap.size w1.heap.size 4000000000000 C1 ρ1 f0 f1 f2 f3 f4 c0 c1 c2 c3 c4 g w6 HL4.out.rm HL4.out.lent)
    go_wp2_with (fail)
    refine HTU.out.mono ?_
    rintro en w7 ⟨rfl, htq⟩
    obtain ⟨g', hs, hl7⟩ := HL4.out.turned HFR.out HWB.out htq
    have HL7 := Aside0.mk hl7
    have HTO' : Aside0 (total g' ≤ 16384) := ⟨by rw [sim_total hs]; exact HTO.out⟩
    have HNR' := Aside0.mk (total_near HTO'.out)
    have HSC := Aside0.mk (sim_cells ⟨some ⟨f0, 0, none⟩, some ⟨f1, 0, none⟩, some ⟨f2, 0, none⟩, some ⟨f3, 0, none⟩, some ⟨f4, 0, none⟩, c0, c1, c2, c3, c4⟩ hs)
    have HRm2 := Aside0.mk (Rm.start w7)
    have HGC2 := Aside0.mk (Graph_any w7 w7.heap.size room0 (role0 w7.heap.size) ⟨some ⟨f0, 0, none⟩, some ⟨f1, 0, none⟩, some ⟨f2, 0, none⟩, some ⟨f3, 0, none⟩, some ⟨f4, 0, none⟩, c0, c1, c2, c3, c4⟩ g' (w7.alloc (.cells room0 38)) (below_alloc (Below.refl _ _) _) HRm2.out HNR'.out.tame hl7.lent.rd)
    rw [HSC.out] at HGC2
    have HL8 := Aside0.mk (hl7.below (below_alloc (Below.refl _ _) (.cells room0 38)))
    clear htq hs hl7 HTU HL4 HNR HTO HFR k0 k1 k2 k3 k4 k5 l0 l1 l2 l3 l4 l5
    obtain ⟨k0, k1, k2, k3, k4, k5, l0, l1, l2, l3, l4, l5⟩ := HL8.out.cells
    go_wp2_with (fail)
    refine HGC2.out.mono ?_
    rintro en w8 ⟨ρ2, C2, M2, rfl, hRm2, hE2, hB2, hL2⟩
    have hb8 : Below w7.heap.size w7 w8 := (below_alloc (Below.refl _ _) (.cells room0 38)).trans hB2
    have HL9 := Aside0.mk (HL7.out.below hb8)
    obtain ⟨ev2, hev2⟩ : ∃ ev2 : Int, (if okB g' = true then 0 else 164) = ev2 := ⟨_, rfl⟩
    have HRC2 := Aside0.mk (RefCheck_any M2 g' HNR'.out.tame (by have := root_total g'; have := HTO'.out; omega) w8 hL2.rd)
    rw [hev2] at HRC2
    have HCK2 := Aside0.mk (fun (wx : World) (h : Lq w v0 v1 v2 v3 v4 v5 (.slice (some ⟨f0, 0, none⟩) g.objs.length c0) (.slice (some ⟨f1, 0, none⟩) g.slots.length c1) (.slice (some ⟨f2, 0, none⟩) g.handles.length c2) (.slice (some ⟨f3, 0, none⟩) g.registry.length c3) (.slice (some ⟨f4, 0, none⟩) g.queue.length c4) (.int .u64 g.next) w2.heap.size w1.heap.size w1.heap.size ρ1 C1 ⟨some ⟨f0, 0, none⟩, some ⟨f1, 0, none⟩, some ⟨f2, 0, none⟩, some ⟨f3, 0, none⟩, some ⟨f4, 0, none⟩, c0, c1, c2, c3, c4⟩ g' wx) => Check_any ⟨some ⟨f0, 0, none⟩, some ⟨f1, 0, none⟩, some ⟨f2, 0, none⟩, some ⟨f3, 0, none⟩, some ⟨f4, 0, none⟩, c0, c1, c2, c3, c4⟩ g' HNR'.out.tame wx h.lent.rd (HT.out.below h.bx.bel))
    rw [HSC.out, hev2] at HCK2
    clear hRm2 hE2 hB2 hL2 hb8 hev2 HGC2 HL8 HL7 k0 k1 k2 k3 k4 k5 l0 l1 l2 l3 l4 l5
    go_wp2_with (fail)
    refine HRC2.out.mono ?_
    rintro en w9 ⟨rfl, hb9⟩
    have HL10 := Aside0.mk (HL9.out.below hb9)
    clear hb9 HRC2 HL9
    obtain ⟨k0, k1, k2, k3, k4, k5, l0, l1, l2, l3, l4, l5⟩ := HL10.out.cells
    go_wp2_with (fail)
    refine (HCK2.out _ HL10.out).mono ?_
    rintro en w10 ⟨rfl, hb10⟩
    have HL11 := Aside0.mk (HL10.out.below hb10)
    clear hb10 HCK2 HL10 k0 k1 k2 k3 k4 k5 l0 l1 l2 l3 l4 l5
    go_wp2_with (go_at_call 12; refine (num_is _ _).mono ?_; rintro en w' ⟨rfl, rfl⟩)
    refine (Hold_any w1.heap.size w1.heap.size 4000000000000 C1 ρ1 _ HL11.out.rm (Nat.le_refl _)).mono ?_
    rintro en w11 ⟨rfl, hb11⟩
    have HL12 := Aside0.mk (HL11.out.below hb11)
    clear hb11 HL11
    go_wp2_with (fail)
    go_ret
    exact ⟨rfl, HL12.out.bx.bel⟩
end Go.Proofs.YtihjjkoddphmiaaDoor.img
