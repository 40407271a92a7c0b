/-
  The walk of middenlaw16.ImageWrites, fn 4.
-/
import Derived.Test.YtihjjkoddphmiaaDoorLImgLs
import Derived.Test.YtihjjkoddphmiaaDoorLRefCheck
import Derived.Test.YtihjjkoddphmiaaDoorLRmTurn
import Derived.Test.YtihjjkoddphmiaaDoorLRefWr
import Derived.Test.YtihjjkoddphmiaaDoorLImgGot
import Derived.Test.YtihjjkoddphmiaaDoorLSmG
namespace Go.Proofs.YtihjjkoddphmiaaDoor.img
open Go.RowKit Go.Proofs.YtihjjkoddphmiaaDoorW.PrintWords Go.Proofs.YtihjjkoddphmiaaDoorW.PrintLast Go.Proofs.YtihjjkoddphmiaaDoorW.PrintMore Go.Proofs.YtihjjkoddphmiaaDoor.PImageRound
set_option linter.unusedVariables false
set_option linter.unusedSimpArgs false

theorem flatten_len (l : List (List Int)) : l.flatten.length = sumF l := by
  induction l with
  | nil => rfl
  | cons a r ih => rw [List.flatten_cons, List.length_append, ih]; simp [sumF]
theorem flat2_len (l : List (List (List Int))) : l.flatten.flatten.length ≤ sumS l := by
  induction l with
  | nil => simp [sumS]
  | cons a r ih =>
    rw [List.flatten_cons, List.flatten_append, List.length_append, flatten_len a]
    simp only [sumS, List.map_cons, List.sum_cons] at ih ⊢
    omega
theorem root_total (g : Gr) : (rootL g).length ≤ total g := by
  have := flat2_len g.slots
  simp only [rootL, List.length_append]
  unfold total
  omega
theorem sim_total {g g' : Gr} (h : Sim g g') : total g' = total g := by
  have e1 : ∀ l : List S62, sumO l = ((l.map osh).map fun p => p.2.2.1 + p.2.2.2).sum := fun l => by
    unfold sumO
    rw [List.map_map]
    rfl
  have e2 : ∀ l : List (List (List Int)), sumS l = ((l.map (List.map List.length)).map fun p => p.length + p.sum).sum := fun l => by
    unfold sumS sumF
    rw [List.map_map]
    congr 1
    apply List.map_congr_left
    intro x _
    simp
  have l0 : g'.objs.length = g.objs.length := by simpa using congrArg List.length h.objs
  have l1 : g'.slots.length = g.slots.length := by simpa using congrArg List.length h.slots
  unfold total
  rw [e1, e1, e2, e2, h.objs, h.slots, h.handles, h.registry, h.queue, l0, l1]

/-- A room that was made just now. -/
abbrev room0 : Array Value := #[.slice none 0 0, .slice none 0 0, .slice none 0 0, .slice none 0 0, .slice none 0 0, .slice none 0 0, .slice none 0 0, .slice none 0 0]
def role0 (r : Nat) : Nat → Role := fun k => if k = r then .own else .work
theorem Rm.start (w : World) : Rm (w.alloc (.cells room0 38)) (role0 w.heap.size) w.heap.size w.heap.size room0 0 := by
  refine ⟨heap_alloc_new w _, Nat.le_refl _, if_pos rfl, fun k hk => if_neg (by simp at hk; omega), rfl, rfl, rfl, fun f m hf => ?_, fun x hx => ?_⟩
  · unfold role0 at hf
    split at hf <;> cases hf
  · have hn : ∀ (i e : Nat) (M : Mk), room0[i]? = some (.slice none 0 0) → Fld (w.alloc (.cells room0 38)) (role0 w.heap.size) w.heap.size room0 i e M 0 := fun i e M h =>
      ⟨_, [], h, own_nil _ _ _ _, Nat.le_refl _, fun k hk => by simp [Value.ownBlock] at hk, fun u hu => by simp at hu⟩
    simp only [flds, List.mem_cons, List.not_mem_nil, or_false] at hx
    rcases hx with rfl | rfl | rfl | rfl | rfl | rfl <;> exact hn _ _ _ rfl
/-- Lists that were lent lie in blocks. -/
theorem Lent.forms {w : World} {ρ : Nat → Role} {L : Lay} {g : Gr} (h : Lent w ρ L g) : ∃ f0 f1 f2 f3 f4 c0 c1 c2 c3 c4, L = ⟨some ⟨f0, 0, none⟩, some ⟨f1, 0, none⟩, some ⟨f2, 0, none⟩, some ⟨f3, 0, none⟩, some ⟨f4, 0, none⟩, c0, c1, c2, c3, c4⟩ := by
  obtain ⟨f0, c0, _, _, e0, -⟩ := h.l0
  obtain ⟨f1, c1, _, _, e1, -⟩ := h.l1
  obtain ⟨f2, c2, _, _, e2, -⟩ := h.l2
  obtain ⟨f3, c3, _, _, e3, -⟩ := h.l3
  obtain ⟨f4, c4, _, _, e4, -⟩ := h.l4
  injection e0 with e0 _ q0; injection e1 with e1 _ q1; injection e2 with e2 _ q2; injection e3 with e3 _ q3; injection e4 with e4 _ q4
  obtain ⟨A0, A1, A2, A3, A4, d0, d1, d2, d3, d4⟩ := L
  simp only at e0 e1 e2 e3 e4 q0 q1 q2 q3 q4
  subst e0 e1 e2 e3 e4 q0 q1 q2 q3 q4
  exact ⟨_, _, _, _, _, _, _, _, _, _, rfl⟩

/-- While the law looks: its argument, the lent graph's variable (block b), the room. -/
structure Lq (w : World) (v0 v1 v2 v3 v4 v5 m0 m1 m2 m3 m4 m5 : Value) (b base r : Nat) (ρ : Nat → Role) (C : Array Value) (M : Lay) (g : Gr) (wr : World) : Prop where
  bx : Bx w wr v0 v1 v2 v3 v4 v5
  lb : wr.heap[b]? = some (.cells #[m0, m1, m2, m3, m4, m5] 27 (0, 0))
  rm : Rm wr ρ base r C 4000000000000
  lent : Lent wr ρ M g
theorem Lq.below {w wr w2 : World} {v0 v1 v2 v3 v4 v5 m0 m1 m2 m3 m4 m5 : Value} {b base r : Nat} {ρ : Nat → Role} {C : Array Value} {M : Lay} {g : Gr} (h : Lq w v0 v1 v2 v3 v4 v5 m0 m1 m2 m3 m4 m5 b base r ρ C M g wr) (hb : Below wr.heap.size wr w2) : Lq w v0 v1 v2 v3 v4 v5 m0 m1 m2 m3 m4 m5 b base r ρ C M g w2 :=
  ⟨h.bx.below hb, blk_below h.lb hb, h.rm.below hb, h.lent.stay (Ext.below hb).lies⟩
/-- What the region looks at. -/
abbrev S12 (a b : Nat) (v0 v1 v2 v3 v4 v5 m0 m1 m2 m3 m4 m5 : Value) (w' : World) : Prop :=
  w'.cell? ⟨a, 0, none⟩ = some v0 ∧ w'.cell? ⟨a, 1, none⟩ = some v1 ∧ w'.cell? ⟨a, 2, none⟩ = some v2 ∧ w'.cell? ⟨a, 3, none⟩ = some v3 ∧ w'.cell? ⟨a, 4, none⟩ = some v4 ∧ w'.cell? ⟨a, 5, none⟩ = some v5 ∧
  w'.cell? ⟨b, 0, none⟩ = some m0 ∧ w'.cell? ⟨b, 1, none⟩ = some m1 ∧ w'.cell? ⟨b, 2, none⟩ = some m2 ∧ w'.cell? ⟨b, 3, none⟩ = some m3 ∧ w'.cell? ⟨b, 4, none⟩ = some m4 ∧ w'.cell? ⟨b, 5, none⟩ = some m5
theorem Lq.cells {w wr : World} {v0 v1 v2 v3 v4 v5 m0 m1 m2 m3 m4 m5 : Value} {b base r : Nat} {ρ : Nat → Role} {C : Array Value} {M : Lay} {g : Gr} (h : Lq w v0 v1 v2 v3 v4 v5 m0 m1 m2 m3 m4 m5 b base r ρ C M g wr) : S12 w.heap.size b v0 v1 v2 v3 v4 v5 m0 m1 m2 m3 m4 m5 wr := by
  obtain ⟨k0, k1, k2, k3, k4, k5⟩ := h.bx.cells
  exact ⟨k0, k1, k2, k3, k4, k5, (blk_cell h.lb 0).trans rfl, (blk_cell h.lb 1).trans rfl, (blk_cell h.lb 2).trans rfl, (blk_cell h.lb 3).trans rfl, (blk_cell h.lb 4).trans rfl, (blk_cell h.lb 5).trans rfl⟩

theorem sim_cells (M : Lay) {g g' : Gr} (h : Sim g g') : gcells M g' = gcells M g := by
  have l0 : g'.objs.length = g.objs.length := by simpa using congrArg List.length h.objs
  have l1 : g'.slots.length = g.slots.length := by simpa using congrArg List.length h.slots
  unfold gcells
  rw [l0, l1, h.handles, h.registry, h.queue, h.next]
/-- Behind turn. -/
theorem Lq.turned {w wr w2 : World} {v0 v1 v2 v3 v4 v5 m0 m1 m2 m3 m4 m5 : Value} {b base r : Nat} {ρ : Nat → Role} {C : Array Value} {M : Lay} {g : Gr} (h : Lq w v0 v1 v2 v3 v4 v5 m0 m1 m2 m3 m4 m5 b base r ρ C M g wr) (hb : ρ b = .work) (hw : w.heap.size < base) (ht : Tq wr ρ base r C 4000000000000 M g w2) :
    ∃ g', Sim g g' ∧ Lq w v0 v1 v2 v3 v4 v5 m0 m1 m2 m3 m4 m5 b base r ρ C M g' w2 := by
  obtain ⟨g', hs, hl⟩ := ht.lent
  refine ⟨g', hs, ⟨h.bx.bel.trans (ht.bel.mono (by omega)), ?_⟩, ?_, ht.rm, hl⟩
  · refine (ht.keep _ (blk_lt h.bx.blk) (fun m hm => ?_)).trans h.bx.blk
    have := h.rm.fixed _ m hm
    omega
  · refine (ht.keep _ (blk_lt h.lb) (fun m hm => ?_)).trans h.lb
    rw [hb] at hm
    cases hm

end Go.Proofs.YtihjjkoddphmiaaDoor.img
namespace Go.Proofs.YtihjjkoddphmiaaDoor.img
open Go.RowKit Go.Proofs.YtihjjkoddphmiaaDoorW.PrintWords Go.Proofs.YtihjjkoddphmiaaDoorW.PrintLast Go.Proofs.YtihjjkoddphmiaaDoorW.PrintMore Go.Proofs.YtihjjkoddphmiaaDoor.PImageRound
set_option linter.unusedVariables false
set_option linter.unusedSimpArgs false

section
variable {w : World} {ρ : Nat → Role} {A : Option Addr} {n c : Nat}
theorem LL.nf {α : Type} {P : El α} {t : Nat} {xs : List α} (h : LL P t w ρ (.slice A n c) xs) : NF w A n := by
  obtain ⟨f, c', cs, m, e, h1, h2, h3, -⟩ := h
  injection e with e1 e2 e3
  subst e1
  intro ad ha j hj
  injection ha with ha
  subst ha
  rw [add_plain]
  exact blk_frozen h3 j
theorem LL.each {α : Type} {P : El α} {t : Nat} {xs : List α} (h : LL P t w ρ (.slice A n c) xs) : ∀ ad, A = some ad → ∀ j, j < n → ∃ x u, w.cell? (ad.add j) = some u ∧ P w ρ u x := by
  obtain ⟨f, c', cs, m, e, h1, h2, h3, h4, h5, h6⟩ := h
  injection e with e1 e2 e3
  subst e1
  intro ad ha j hj
  injection ha with ha
  subst ha
  obtain ⟨u, hu, hp⟩ := h6 j _ (List.getElem?_eq_getElem (show j < xs.length by omega))
  refine ⟨_, u, ?_, hp⟩
  rw [add_plain]
  exact (blk_cell h3 j).trans hu
theorem LF.nf2 {xs : List (List Int)} (h : LF w ρ (.slice A n c) xs) : NF2 w A n := by
  intro ad ha j hj F m f hc
  obtain ⟨x, u, hu, hp⟩ := LL.each h ad ha j hj
  rw [hu] at hc
  injection hc with hc
  subst hc
  exact LL.nf hp
theorem LS.nf3 {xs : List (List (List Int))} (h : LS w ρ (.slice A n c) xs) : NF3 w A n := by
  intro ad ha j hj F m f hc
  obtain ⟨x, u, hu, hp⟩ := LL.each h ad ha j hj
  rw [hu] at hc
  injection hc with hc
  subst hc
  exact LF.nf2 hp
theorem LO.nfo {xs : List S62} (h : LO w ρ (.slice A n c) xs) : NFO w A n := by
  obtain ⟨f, c', cs, m, e, h1, h2, h3, h4, h5, h6⟩ := h
  injection e with e1 e2 e3
  subst e1
  intro ad ha j hj
  injection ha with ha
  subst ha
  obtain ⟨v3, v4, a, b, d, e4, e5, hp, hq⟩ := h6 j _ (List.getElem?_eq_getElem (show j < xs.length by omega))
  rw [add_plain]
  refine ⟨blk_frozen h3 _, blk_frozen h3 _, blk_frozen h3 _, fun F k f2 hc => ?_⟩
  have hc2 := (blk_cell h3 (j * 5 + 3)).trans e4
  rw [hc2] at hc
  injection hc with hc
  subst hc
  exact LL.nf hp
end
theorem Lent.fair {w : World} {ρ : Nat → Role} {L : Lay} {g : Gr} (h : Lent w ρ L g) : Fair w L g :=
  ⟨h.rd, LO.nfo h.l0, LS.nf3 h.l1, LL.nf h.l2, LL.nf h.l4⟩

def outB (g : Gr) : List Int := if okB g = true then image g else []
def outC (g : Gr) : Int := if okB g = true then 0 else 164
theorem outB_bytes (g : Gr) : Bytes (outB g) := by
  unfold outB
  split
  · exact (body_bytes g).app (sb_bytes _)
  · intro x hx; simp at hx
theorem RefWrite_any (L : Lay) (g : Gr) (hn : Near g) (hw : Words g) (hr : (rootL g).length ≤ 1000000000) (w : World) (hR : Rd w L g) :
    Calls Tryd.prog 17 #[.agg (gcells L g).toArray] w fun e w' => ∃ A c, e = .returned (.tuple #[.slice A (outB g).length c, .int .i64 (outC g)]) ∧ (outB g).length ≤ c ∧ Kd.C (Kd.int .u8) w' A (outB g).length (outB g) ∧ Below w.heap.size w w' := by
  obtain ⟨k, hk⟩ := (rwrite_ev hn hw hr).rounds
  have e : (if okB g = true then (image g, 0) else ([], 164)) = (outB g, outC g) := by
    unfold outB outC
    split <;> rfl
  rw [e] at hk
  refine (middenref16_Write.calls k _ _ _ _ _ _ _ _ _ _ _ _ _ _ _ _ _ _ w hR.r0 hR.h0 hR.r1 hR.h1 hR.r2 hR.h2 hR.r3 hR.h3 hR.r4 hR.h4 hk).mono ?_
  rintro en w' ⟨v, rfl, hv, hb⟩
  obtain ⟨A, c, rfl, hl, hC⟩ := Kd.R_reads hv
  exact ⟨A, c, rfl, hl, hC, hb⟩
theorem Write_any (L : Lay) (g : Gr) (hn : Near g) (hw : Words g) (w : World) (hF : Fair w L g) (hT : Tabs w) :
    Calls Tryd.prog 18 #[.agg (gcells L g).toArray] w fun e w' => ∃ A c, e = .returned (.tuple #[.slice A (outB g).length c, .int .i64 (outC g)]) ∧ (outB g).length ≤ c ∧ Kd.C (Kd.int .u8) w' A (outB g).length (outB g) ∧ Below w.heap.size w w' := by
  cases hok : okB g with
  | true =>
    have e1 : outB g = image g := if_pos hok
    have e2 : outC g = 0 := if_pos hok
    rw [e1, e2]
    refine (Write_ok L g hn hw w hF.rd hT hok hF.h0 hF.h1 hF.h2 hF.h4).mono ?_
    rintro en w' ⟨v, rfl, hv, hb⟩
    obtain ⟨A, c, rfl, hl, hC⟩ := Kd.R_reads hv
    exact ⟨A, c, rfl, hl, hC, hb⟩
  | false =>
    have e1 : outB g = [] := if_neg (by rw [hok]; decide)
    have e2 : outC g = 164 := if_neg (by rw [hok]; decide)
    rw [e1, e2]
    refine (Write_bad L g hn w hF.rd hT hok).mono ?_
    rintro en w' ⟨rfl, hb⟩
    exact ⟨none, 0, rfl, Nat.le_refl _, Kd.C_nil _ _, hb⟩
theorem same_self {A B : Option Addr} {c d : Nat} {l : List Int} {w : World} (hl : Bytes l) (h1 : Kd.C (Kd.int .u8) w A l.length l) (h2 : l.length ≤ c) (h3 : Kd.C (Kd.int .u8) w B l.length l) (h4 : l.length ≤ d) :
    Calls Tryd.prog 19 #[.slice A l.length c, .slice B l.length d] w fun e w' => e = .returned (.bool true) ∧ Below w.heap.size w w' := by
  refine (same_any hl hl h1 h2 h3 h4).mono ?_
  rintro e w' ⟨rfl, hb⟩
  exact ⟨by rw [decide_eq_true rfl], hb⟩
/-- A row of bytes lies beside what the law holds. -/
structure Lw (w : World) (v0 v1 v2 v3 v4 v5 m0 m1 m2 m3 m4 m5 : Value) (b base r : Nat) (ρ : Nat → Role) (C : Array Value) (M : Lay) (g : Gr) (A : Option Addr) (bs : List Int) (wr : World) : Prop where
  lq : Lq w v0 v1 v2 v3 v4 v5 m0 m1 m2 m3 m4 m5 b base r ρ C M g wr
  row : Kd.C (Kd.int .u8) wr A bs.length bs
theorem Lw.below {w wr w2 : World} {v0 v1 v2 v3 v4 v5 m0 m1 m2 m3 m4 m5 : Value} {b base r : Nat} {ρ : Nat → Role} {C : Array Value} {M : Lay} {g : Gr} {A : Option Addr} {bs : List Int} (h : Lw w v0 v1 v2 v3 v4 v5 m0 m1 m2 m3 m4 m5 b base r ρ C M g A bs wr) (hb : Below wr.heap.size wr w2) : Lw w v0 v1 v2 v3 v4 v5 m0 m1 m2 m3 m4 m5 b base r ρ C M g A bs w2 :=
  ⟨h.lq.below hb, Kd.C_below h.row hb⟩

set_option maxHeartbeats 16000000 in
set_option maxRecDepth 100000 in
theorem writes_any (L : Lay) (g : Gr) (w : World) (hR : Rd w L g) (hrm : Roomy g) (hwd : Words g) (hT : Tabs w) :
    Calls Tryd.prog 4 #[.agg (gcells L g).toArray] w fun e w' => e = .returned (.bool true) ∧ Below w.heap.size w w' := by
  obtain ⟨r, hsm, hsmall⟩ := small_any (L := L) hrm
  have HSM := Aside0.mk (fun (w' : World) (hb : Below w.heap.size w w') => hsmall w' (hR.below hb))
  have HSR := Aside0.mk hsm
  have HR := Aside0.mk hR
  have HT := Aside0.mk hT
  have HWD := Aside0.mk hwd
  obtain ⟨C, hC⟩ : ∃ C : List Value, gcells L g = C := ⟨_, rfl⟩
  have HC := Aside0.mk hC
  rw [hC] at HSM ⊢
  obtain ⟨v0, v1, v2, v3, v4, v5, rfl⟩ : ∃ v0 v1 v2 v3 v4 v5, C = [v0, v1, v2, v3, v4, v5] := ⟨_, _, _, _, _, _, hC.symm⟩
  clear hsm hsmall hR hrm hT hC hwd
  have HB0 := Aside0.mk (Bx.start w v0 v1 v2 v3 v4 v5)
  obtain ⟨k0, k1, k2, k3, k4, k5⟩ := HB0.out.cells
  go_enter Tryd.func4, Tryd.ntmps4
  go_wp2_with (fail)
  refine (HSM.out _ HB0.out.bel).mono ?_
  rintro en w1 ⟨rfl, hb1⟩
  have HB1 := Aside0.mk (HB0.out.below hb1)
  clear hb1 HSM k0 k1 k2 k3 k4 k5 HB0
  obtain ⟨k0, k1, k2, k3, k4, k5⟩ := HB1.out.cells
  cases r with
  | false =>
    go_wp2_with (fail)
    go_ret
    exact ⟨rfl, HB1.out.bel⟩
  | true =>
    have htot := HSR.out (by trivial)
    have HTO := Aside0.mk htot
    have HNR := Aside0.mk (total_near htot)
    clear htot HSR
    obtain ⟨bs, hbs⟩ : ∃ bs, outB g = bs := ⟨_, rfl⟩
    obtain ⟨ev, hev⟩ : ∃ ev, outC g = ev := ⟨_, rfl⟩
    have HBY : Aside0 (Bytes bs) := ⟨by rw [← hbs]; exact outB_bytes g⟩
    have HEV := Aside0.mk hev
    have HBS := Aside0.mk hbs
    have HRW := Aside0.mk (RefWrite_any L g HNR.out HWD.out (by have := root_total g; have := HTO.out; omega) w1 (HR.out.below HB1.out.bel))
    rw [HC.out, hbs, hev] at HRW
    clear hbs hev
    go_wp2_with (fail)
    refine HRW.out.mono ?_
    rintro en w2 ⟨A, cA, rfl, hcA, hCA, hb2⟩
    have HB2 := Aside0.mk (HB1.out.below hb2)
    have HCA := Aside0.mk hCA
    have HLA := Aside0.mk hcA
    clear hb2 hCA hcA HRW k0 k1 k2 k3 k4 k5 HB1
    obtain ⟨k0, k1, k2, k3, k4, k5⟩ := HB2.out.cells
    have HRm := Aside0.mk (Rm.start w2)
    have HBR := Aside0.mk (HB2.out.below (below_alloc (Below.refl _ _) (.cells room0 38)))
    have HGC := Aside0.mk (Graph_any w2 w2.heap.size room0 (role0 w2.heap.size) L g (w2.alloc (.cells room0 38)) (below_alloc (Below.refl _ _) _) HRm.out HNR.out.tame (HR.out.below HB2.out.bel))
    rw [HC.out] at HGC
    clear k0 k1 k2 k3 k4 k5
    obtain ⟨k0, k1, k2, k3, k4, k5⟩ := HBR.out.cells
    go_wp2_with (fail)
    refine HGC.out.mono ?_
    rintro en w3 ⟨ρ1, C1, M, rfl, hRm1, hE1, hB1, hL1⟩
    obtain ⟨f0, f1, f2, f3, f4, c0, c1, c2, c3, c4, rfl⟩ := hL1.forms
    have hbx3 : Bx w w3 v0 v1 v2 v3 v4 v5 := by
      have hk : w3.heap[w.heap.size]? = (w2.alloc (.cells room0 38)).heap[w.heap.size]? := hE1.keep _ (blk_lt HBR.out.blk) (by
        have : w.heap.size < w2.heap.size := blk_lt HB2.out.blk
        unfold role0
        rw [if_neg (by omega)]
        intro e
        cases e)
      exact ⟨(HB2.out.bel.mono (Nat.le_refl _)).trans ((below_alloc (Below.refl _ _) (.cells room0 38)).mono HB2.out.bel.size |>.trans (hB1.mono HB2.out.bel.size)), hk.trans HBR.out.blk⟩
    have hb23 : Below w2.heap.size w2 w3 := (below_alloc (Below.refl _ _) (.cells room0 38)).trans hB1
    have HL0 := Aside0.mk (show Lw w v0 v1 v2 v3 v4 v5 (.slice (some ⟨f0, 0, none⟩) g.objs.length c0) (.slice (some ⟨f1, 0, none⟩) g.slots.length c1) (.slice (some ⟨f2, 0, none⟩) g.handles.length c2) (.slice (some ⟨f3, 0, none⟩) g.registry.length c3) (.slice (some ⟨f4, 0, none⟩) g.queue.length c4) (.int .u64 g.next) w3.heap.size w2.heap.size w2.heap.size ρ1 C1 ⟨some ⟨f0, 0, none⟩, some ⟨f1, 0, none⟩, some ⟨f2, 0, none⟩, some ⟨f3, 0, none⟩, some ⟨f4, 0, none⟩, c0, c1, c2, c3, c4⟩ g A bs (w3.alloc (.cells #[.slice (some ⟨f0, 0, none⟩) g.objs.length c0, .slice (some ⟨f1, 0, none⟩) g.slots.length c1, .slice (some ⟨f2, 0, none⟩) g.handles.length c2, .slice (some ⟨f3, 0, none⟩) g.registry.length c3, .slice (some ⟨f4, 0, none⟩) g.queue.length c4, .int .u64 g.next] 27)) from
      ⟨⟨hbx3.below (below_alloc (Below.refl _ _) _), heap_alloc_new w3 _, hRm1.below (below_alloc (Below.refl _ _) _), hL1.stay (Ext.below (below_alloc (Below.refl _ _) _)).lies⟩, Kd.C_below (Kd.C_below HCA.out hb23) (below_alloc (Below.refl _ _) _)⟩)
    have HFR := Aside0.mk (hRm1.fresh w3.heap.size (Nat.le_refl _))
    have HWB0 : w.heap.size < w2.heap.size := blk_lt HB2.out.blk
    clear hbx3 hb23 hRm1 hE1 hB1 hL1 HGC HBR HB2 HRm HCA k0 k1 k2 k3 k4 k5
    obtain ⟨k0, k1, k2, k3, k4, k5, l0, l1, l2, l3, l4, l5⟩ := HL0.out.lq.cells
    have HWR := Aside0.mk (Write_any ⟨some ⟨f0, 0, none⟩, some ⟨f1, 0, none⟩, some ⟨f2, 0, none⟩, some ⟨f3, 0, none⟩, some ⟨f4, 0, none⟩, c0, c1, c2, c3, c4⟩ g HNR.out HWD.out _ HL0.out.lq.lent.fair (HT.out.below HL0.out.lq.bx.bel))
    rw [HBS.out, HEV.out] at HWR
    go_wp2_with (fail)
    refine HWR.out.mono ?_
    rintro en w4 ⟨B, cB, rfl, hcB, hCB, hb4⟩
    have HL1 := Aside0.mk (HL0.out.below hb4)
    have HCB := Aside0.mk hCB
    have HLB := Aside0.mk hcB
    clear hb4 hCB hcB HL0 HWR k0 k1 k2 k3 k4 k5 l0 l1 l2 l3 l4 l5
    have HSM := Aside0.mk (fun (wx : World) (hl : Kd.C (Kd.int .u8) wx B bs.length bs) (h : Kd.C (Kd.int .u8) wx A bs.length bs) => same_self HBY.out hl HLB.out h HLA.out)
    have HSG := Aside0.mk (fun (wx : World) (h : Below w.heap.size w wx) (hl : Lent wx ρ1 ⟨some ⟨f0, 0, none⟩, some ⟨f1, 0, none⟩, some ⟨f2, 0, none⟩, some ⟨f3, 0, none⟩, some ⟨f4, 0, none⟩, c0, c1, c2, c3, c4⟩ g) => sameGr_any ⟨some ⟨f0, 0, none⟩, some ⟨f1, 0, none⟩, some ⟨f2, 0, none⟩, some ⟨f3, 0, none⟩, some ⟨f4, 0, none⟩, c0, c1, c2, c3, c4⟩ L g HNR.out.tame wx hl.rd (HR.out.below h))
    rw [HC.out] at HSG
    have HS1 := Aside0.mk (HSM.out w4 HCB.out HL1.out.row)
    go_wp2_with (go_at_call 12; refine (num_is _ _).mono ?_; rintro en w' ⟨rfl, rfl⟩)
    refine HS1.out.mono ?_
    rintro en w5 ⟨rfl, hb5⟩
    have HL2 := Aside0.mk (HL1.out.below hb5)
    clear hb5 HL1 HS1 HCB HSM
    obtain ⟨k0, k1, k2, k3, k4, k5, l0, l1, l2, l3, l4, l5⟩ := HL2.out.lq.cells
    have HS2 := Aside0.mk (HSG.out w5 HL2.out.lq.bx.bel HL2.out.lq.lent)
    go_wp2_with (fail)
    refine HS2.out.mono ?_
    rintro en w6 ⟨rfl, hb6⟩
    have HL3 := Aside0.mk (HL2.out.below hb6)
    clear hb6 HL2 HS2 HSG k0 k1 k2 k3 k4 k5 l0 l1 l2 l3 l4 l5
    go_wp2_with (fail)
    refine (Hold_any w2.heap.size w2.heap.size 4000000000000 C1 ρ1 _ HL3.out.lq.rm (Nat.le_refl _)).mono ?_
    rintro en w7 ⟨rfl, hb7⟩
    have HL4 := Aside0.mk (HL3.out.lq.below hb7)
    clear hb7 HL3
    have HWB : Aside0 (w.heap.size < w2.heap.size) := ⟨HWB0⟩
    obtain ⟨k0, k1, k2, k3, k4, k5, l0, l1, l2, l3, l4, l5⟩ := HL4.out.cells
    have HTU := Aside0.mk (turn_any w2.heap.size w2.heap.size 4000000000000 C1 ρ1 f0 f1 f2 f3 f4 c0 c1 c2 c3 c4 g w7 HL4.out.rm HL4.out.lent)
    go_wp2_with (fail)
    refine HTU.out.mono ?_
    rintro en w8 ⟨rfl, htq⟩
    obtain ⟨g', hs, hl8⟩ := HL4.out.turned HFR.out HWB.out htq
    have HL8 := Aside0.mk hl8
    have HTO' : Aside0 (total g' ≤ 16384) := ⟨by rw [sim_total hs]; exact HTO.out⟩
    have HNR' := Aside0.mk (total_near HTO'.out)
    have HWD' : Aside0 (Words g') := ⟨hs.words HWD.out⟩
    have HSC := Aside0.mk (sim_cells ⟨some ⟨f0, 0, none⟩, some ⟨f1, 0, none⟩, some ⟨f2, 0, none⟩, some ⟨f3, 0, none⟩, some ⟨f4, 0, none⟩, c0, c1, c2, c3, c4⟩ hs)
    have HRm2 := Aside0.mk (Rm.start w8)
    have HGC2 := Aside0.mk (Graph_any w8 w8.heap.size room0 (role0 w8.heap.size) ⟨some ⟨f0, 0, none⟩, some ⟨f1, 0, none⟩, some ⟨f2, 0, none⟩, some ⟨f3, 0, none⟩, some ⟨f4, 0, none⟩, c0, c1, c2, c3, c4⟩ g' (w8.alloc (.cells room0 38)) (below_alloc (Below.refl _ _) _) HRm2.out HNR'.out.tame hl8.lent.rd)
    rw [HSC.out] at HGC2
    have HL9 := Aside0.mk (hl8.below (below_alloc (Below.refl _ _) (.cells room0 38)))
    clear htq hs hl8 HTU HL4 HNR HTO HFR HWD HEV HBS HBY k0 k1 k2 k3 k4 k5 l0 l1 l2 l3 l4 l5
    obtain ⟨k0, k1, k2, k3, k4, k5, l0, l1, l2, l3, l4, l5⟩ := HL9.out.cells
    go_wp2_with (fail)
    refine HGC2.out.mono ?_
    rintro en w9 ⟨ρ2, C2, M2, rfl, hRm2, hE2, hB2, hL2⟩
    have hb9 : Below w8.heap.size w8 w9 := (below_alloc (Below.refl _ _) (.cells room0 38)).trans hB2
    have HLb := Aside0.mk (HL8.out.below hb9)
    obtain ⟨bs2, hbs2⟩ : ∃ bs2, outB g' = bs2 := ⟨_, rfl⟩
    obtain ⟨ev2, hev2⟩ : ∃ ev2, outC g' = ev2 := ⟨_, rfl⟩
    have HBY2 : Aside0 (Bytes bs2) := ⟨by rw [← hbs2]; exact outB_bytes g'⟩
    have HRW2 := Aside0.mk (RefWrite_any M2 g' HNR'.out HWD'.out (by have := root_total g'; have := HTO'.out; omega) w9 hL2.rd)
    rw [hbs2, hev2] at HRW2
    have HWR2 := Aside0.mk (fun (wx : World) (h : Lq w v0 v1 v2 v3 v4 v5 (.slice (some ⟨f0, 0, none⟩) g.objs.length c0) (.slice (some ⟨f1, 0, none⟩) g.slots.length c1) (.slice (some ⟨f2, 0, none⟩) g.handles.length c2) (.slice (some ⟨f3, 0, none⟩) g.registry.length c3) (.slice (some ⟨f4, 0, none⟩) g.queue.length c4) (.int .u64 g.next) w3.heap.size w2.heap.size w2.heap.size ρ1 C1 ⟨some ⟨f0, 0, none⟩, some ⟨f1, 0, none⟩, some ⟨f2, 0, none⟩, some ⟨f3, 0, none⟩, some ⟨f4, 0, none⟩, c0, c1, c2, c3, c4⟩ g' wx) => Write_any ⟨some ⟨f0, 0, none⟩, some ⟨f1, 0, none⟩, some ⟨f2, 0, none⟩, some ⟨f3, 0, none⟩, some ⟨f4, 0, none⟩, c0, c1, c2, c3, c4⟩ g' HNR'.out HWD'.out wx h.lent.fair (HT.out.below h.bx.bel))
    rw [HSC.out, hbs2, hev2] at HWR2
    clear hRm2 hE2 hB2 hL2 hb9 hbs2 hev2 HGC2 HL8 HL9 k0 k1 k2 k3 k4 k5 l0 l1 l2 l3 l4 l5
    go_wp2_with (fail)
    refine HRW2.out.mono ?_
    rintro en wa ⟨A2, cA2, rfl, hcA2, hCA2, hba⟩
    have HLc := Aside0.mk (show Lw w v0 v1 v2 v3 v4 v5 (.slice (some ⟨f0, 0, none⟩) g.objs.length c0) (.slice (some ⟨f1, 0, none⟩) g.slots.length c1) (.slice (some ⟨f2, 0, none⟩) g.handles.length c2) (.slice (some ⟨f3, 0, none⟩) g.registry.length c3) (.slice (some ⟨f4, 0, none⟩) g.queue.length c4) (.int .u64 g.next) w3.heap.size w2.heap.size w2.heap.size ρ1 C1 ⟨some ⟨f0, 0, none⟩, some ⟨f1, 0, none⟩, some ⟨f2, 0, none⟩, some ⟨f3, 0, none⟩, some ⟨f4, 0, none⟩, c0, c1, c2, c3, c4⟩ g' A2 bs2 wa from ⟨HLb.out.below hba, hCA2⟩)
    have HLA2 := Aside0.mk hcA2
    clear hba hCA2 hcA2 HRW2 HLb
    obtain ⟨k0, k1, k2, k3, k4, k5, l0, l1, l2, l3, l4, l5⟩ := HLc.out.lq.cells
    go_wp2_with (fail)
    refine (HWR2.out _ HLc.out.lq).mono ?_
    rintro en wb ⟨B2, cB2, rfl, hcB2, hCB2, hbb⟩
    have HLd := Aside0.mk (HLc.out.below hbb)
    have HS3 := Aside0.mk (same_self HBY2.out hCB2 hcB2 HLd.out.row HLA2.out)
    clear hbb hCB2 hcB2 HWR2 HLc k0 k1 k2 k3 k4 k5 l0 l1 l2 l3 l4 l5
    go_wp2_with (go_at_call 12; refine (num_is _ _).mono ?_; rintro en w' ⟨rfl, rfl⟩)
    refine HS3.out.mono ?_
    rintro en wc ⟨rfl, hbc⟩
    have HLe := Aside0.mk (HLd.out.lq.below hbc)
    clear hbc HS3 HLd
    go_wp2_with (fail)
    refine (Hold_any w2.heap.size w2.heap.size 4000000000000 C1 ρ1 _ HLe.out.rm (Nat.le_refl _)).mono ?_
    rintro en wd ⟨rfl, hbd⟩
    have HLf := Aside0.mk (HLe.out.below hbd)
    clear hbd HLe
    go_wp2_with (fail)
    go_ret
    exact ⟨rfl, HLf.out.bx.bel⟩
end Go.Proofs.YtihjjkoddphmiaaDoor.img
