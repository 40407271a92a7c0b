/-
  The walk of middenlaw16.turn: something in each list of a lent graph is another thing.
-/
import Derived.Test.YtihjjkoddphmiaaDoorLRmPut
import Derived.Deep.DeepCutAuto
import Derived.RegionTactic
import Derived.Deep.RegionLaw
import Derived.OpenShut
import Derived.StillTailTactics
namespace Go.Proofs.YtihjjkoddphmiaaDoor.img
open Go.RowKit Go.Proofs.YtihjjkoddphmiaaDoorW.PrintWords Go.Proofs.YtihjjkoddphmiaaDoorW.PrintLast Go.Proofs.YtihjjkoddphmiaaDoorW.PrintMore Go.Proofs.YtihjjkoddphmiaaDoor.PImageRound
set_option linter.unusedVariables false
set_option linter.unusedSimpArgs false

/-- While a graph is turned. -/
structure Tq (w : World) (ρ : Nat → Role) (base r : Nat) (C : Array Value) (K : Nat) (L : Lay) (g : Gr) (wr : World) : Prop where
  box : wr.heap[w.heap.size]? = some (.cells (gcells L g).toArray 27 (0, 0))
  rm : Rm wr ρ base r C K
  bel : Below base w wr
  lent : ∃ g', Sim g g' ∧ Lent wr ρ L g'
  work : ρ w.heap.size = .work
  keep : ∀ k, k < w.heap.size → (∀ m, ρ k ≠ .fix m) → wr.heap[k]? = w.heap[k]?
section
variable {w wr : World} {ρ : Nat → Role} {base r K : Nat} {C : Array Value} {L : Lay} {g : Gr}
theorem Tq.start (hR : Rm w ρ base r C K) (hL : Lent w ρ L g) : Tq w ρ base r C K L g (w.alloc (.cells (gcells L g).toArray 27)) := by
  have hb : Below w.heap.size w (w.alloc (.cells (gcells L g).toArray 27)) := below_alloc (Below.refl _ _) _
  exact ⟨heap_alloc_new w _, hR.below hb, hb.mono hR.low_size, ⟨g, Sim.refl g, hL.stay (Ext.below hb).lies⟩, hR.fresh _ (Nat.le_refl _), fun k hk _ => hb.block k hk⟩
theorem Tq.below {w2 : World} (h : Tq w ρ base r C K L g wr) (hb : Below wr.heap.size wr w2) : Tq w ρ base r C K L g w2 := by
  obtain ⟨g', hs, hl⟩ := h.lent
  exact ⟨blk_below h.box hb, h.rm.below hb, h.bel.trans (hb.mono h.rm.low_size), ⟨g', hs, hl.stay (Ext.below hb).lies⟩, h.work, fun k hk hr => (hb.block k (Nat.lt_trans hk (blk_lt h.box))).trans (h.keep k hk hr)⟩
theorem Tq.put {f m i t : Nat} {k : IntKind} {y : Int} {cs : Array Value} (h : Tq w ρ base r C K L g wr) (hρ : ρ f = .fix m) (hi : i < m) (hf : wr.heap[f]? = some (.cells cs t (0, 0))) (hp : PutOk t k y i) : Tq w ρ base r C K L g (wr.setCell ⟨f, i, none⟩ (.int k y)) := by
  obtain ⟨g', hs, hl⟩ := h.lent
  obtain ⟨g2, hs2, hl2⟩ := hl.put hf hp
  exact ⟨blk_far h.box (fun (e : w.heap.size = f) => by have := h.work; rw [e, hρ] at this; cases this) _, h.rm.put hρ hi _, h.bel.setCell (h.rm.fixed f m hρ) _, ⟨g2, hs.trans hs2, hl2⟩, h.work, fun q hq hr => (Below.heap_setCell wr ⟨f, i, none⟩ _ q (fun (e : q = f) => hr m (by rw [e]; exact hρ))).trans (h.keep q hq hr)⟩
end
/-- An object that was lent: where it lies. -/
theorem LO.at_ {w : World} {ρ : Nat → Role} {f c n : Nat} {xs : List S62} (h : LO w ρ (.slice (some ⟨f, 0, none⟩) n c) xs) {j : Nat} (hj : j < n) : ∃ (cs : Array Value) (m : Nat) (o : S62) (f3 c3 f4 c4 : Nat), w.heap[f]? = some (.cells cs 62 (0, 0)) ∧ ρ f = .fix m ∧ n * 5 ≤ m ∧ n ≤ 1000000000 ∧
    w.cell? ⟨f, j * 5 + 2, none⟩ = some (.int .i64 o.f2) ∧ w.cell? ⟨f, j * 5 + 3, none⟩ = some (.slice (some ⟨f3, 0, none⟩) o.f3.length c3) ∧ w.cell? ⟨f, j * 5 + 4, none⟩ = some (.slice (some ⟨f4, 0, none⟩) o.f4.length c4) ∧
    LI .i64 3 w ρ (.slice (some ⟨f3, 0, none⟩) o.f3.length c3) o.f3 ∧ LI .u64 25 w ρ (.slice (some ⟨f4, 0, none⟩) o.f4.length c4) o.f4 := by
  obtain ⟨f0, c0, cs, m, e, h1, h2, h3, h4, h5, h6⟩ := h
  injection e with e1 e2 e3
  injection e1 with e1
  injection e1 with e1 _ _
  subst e1 e2 e3
  obtain ⟨v3, v4, -, -, a2, a3, a4, p3, p4⟩ := h6 j _ (List.getElem?_eq_getElem hj)
  have p3' := p3
  have p4' := p4
  obtain ⟨f3, c3, _, _, rfl, -⟩ := p3
  obtain ⟨f4, c4, _, _, rfl, -⟩ := p4
  exact ⟨cs, m, _, f3, c3, f4, c4, h3, h4, h5, h2, (blk_cell h3 _).trans a2, (blk_cell h3 _).trans a3, (blk_cell h3 _).trans a4, p3', p4'⟩
theorem LI.at_ {k : IntKind} {t f c n : Nat} {w : World} {ρ : Nat → Role} {xs : List Int} (h : LI k t w ρ (.slice (some ⟨f, 0, none⟩) n c) xs) (hn : 0 < n) : ∃ (cs : Array Value) (m : Nat) (x : Int), w.heap[f]? = some (.cells cs t (0, 0)) ∧ ρ f = .fix m ∧ 0 < m ∧ n ≤ 1000000000 ∧ w.cell? ⟨f, 0, none⟩ = some (.int k x) ∧ x ∈ xs := by
  obtain ⟨f0, c0, cs, m, e, h1, h2, h3, h4, h5, h6⟩ := h
  injection e with e1 e2 e3
  injection e1 with e1
  injection e1 with e1 _ _
  subst e1 e2 e3
  obtain ⟨u, a0, hu⟩ := h6 0 _ (List.getElem?_eq_getElem hn)
  exact ⟨cs, m, xs[0], h3, h4, by omega, h2, (blk_cell h3 _).trans (by rw [a0, show u = _ from hu]), List.getElem_mem _⟩
theorem LL.at_ {α : Type} {P : El α} {t f c n : Nat} {w : World} {ρ : Nat → Role} {xs : List α} (h : LL P t w ρ (.slice (some ⟨f, 0, none⟩) n c) xs) (hn : 0 < n) : ∃ (u : Value) (x : α), n ≤ 1000000000 ∧ w.cell? ⟨f, 0, none⟩ = some u ∧ P w ρ u x ∧ xs[0]? = some x := by
  obtain ⟨f0, c0, cs, m, e, h1, h2, h3, h4, h5, h6⟩ := h
  injection e with e1 e2 e3
  injection e1 with e1
  injection e1 with e1 _ _
  subst e1 e2 e3
  obtain ⟨u, a0, hu⟩ := h6 0 _ (List.getElem?_eq_getElem hn)
  exact ⟨u, _, h2, (blk_cell h3 _).trans a0, hu, List.getElem?_eq_getElem hn⟩

theorem Tq.obj {w wr : World} {ρ : Nat → Role} {base r K f c : Nat} {C : Array Value} {A1 A2 A3 A4 : Option Addr} {c1 c2 c3 c4 : Nat} {g : Gr} (h : Tq w ρ base r C K ⟨some ⟨f, 0, none⟩, A1, A2, A3, A4, c, c1, c2, c3, c4⟩ g wr) {j : Nat} (hj : j < g.objs.length) :
    ∃ (cs : Array Value) (m : Nat) (o : S62) (f3 c3 f4 c4 : Nat), wr.heap[f]? = some (.cells cs 62 (0, 0)) ∧ ρ f = .fix m ∧ g.objs.length * 5 ≤ m ∧ g.objs.length ≤ 1000000000 ∧
    wr.cell? ⟨f, j * 5 + 2, none⟩ = some (.int .i64 o.f2) ∧ wr.cell? ⟨f, j * 5 + 3, none⟩ = some (.slice (some ⟨f3, 0, none⟩) o.f3.length c3) ∧ wr.cell? ⟨f, j * 5 + 4, none⟩ = some (.slice (some ⟨f4, 0, none⟩) o.f4.length c4) ∧
    LI .i64 3 wr ρ (.slice (some ⟨f3, 0, none⟩) o.f3.length c3) o.f3 ∧ LI .u64 25 wr ρ (.slice (some ⟨f4, 0, none⟩) o.f4.length c4) o.f4 := by
  obtain ⟨g', hs, hl⟩ := h.lent
  have hlen : g'.objs.length = g.objs.length := by simpa using congrArg List.length hs.objs
  have h0 := hl.l0
  rw [show g'.objs.length = g.objs.length from hlen] at h0
  exact LO.at_ h0 hj
theorem inW_bits (x y : Int) : inW (bits BinOp.xor IntKind.u64 x y) := by
  have hwf := wf_bits BinOp.xor .u64 x y
  have e1 : IntKind.u64.min = 0 := by decide
  have e2 : IntKind.u64.max = 18446744073709551615 := by decide
  generalize bits BinOp.xor IntKind.u64 x y = v at hwf ⊢
  simp [Lit.wf] at hwf
  unfold inW
  omega
/-- A list that was lent, seen from its head alone. -/
structure Hd (k : IntKind) (t : Nat) (ρ : Nat → Role) (b n : Nat) (wr : World) : Prop where
  le : n ≤ 1000000000
  hd : 0 < n → ∃ (cs : Array Value) (m : Nat) (x : Int), wr.heap[b]? = some (.cells cs t (0, 0)) ∧ ρ b = .fix m ∧ 0 < m ∧ wr.cell? ⟨b, 0, none⟩ = some (.int k x)
theorem LI.hd {k : IntKind} {t f c n : Nat} {w : World} {ρ : Nat → Role} {xs : List Int} (h : LI k t w ρ (.slice (some ⟨f, 0, none⟩) n c) xs) : Hd k t ρ f n w := by
  refine ⟨?_, fun hn => ?_⟩
  · obtain ⟨f0, c0, cs, m, e, h1, h2, h3, h4, h5, h6⟩ := h
    injection e with e1 e2 e3
    omega
  · obtain ⟨cs, m, x, h1, h2, h3, h4, h5, h6⟩ := LI.at_ h hn
    exact ⟨cs, m, x, h1, h2, h3, h5⟩
theorem Hd.below {k : IntKind} {t b n : Nat} {ρ : Nat → Role} {w w1 : World} (h : Hd k t ρ b n w) (hb : Below w.heap.size w w1) : Hd k t ρ b n w1 := ⟨h.le, fun hn => by
  obtain ⟨cs, m, x, h1, h2, h3, h4⟩ := h.hd hn
  exact ⟨cs, m, x, blk_below h1 hb, h2, h3, pw_cell_below hb h4⟩⟩
theorem Hd.far {k : IntKind} {t b n g i : Nat} {ρ : Nat → Role} {w : World} {u : Value} (h : Hd k t ρ b n w) (hne : 0 < n → b ≠ g) : Hd k t ρ b n (w.setCell ⟨g, i, none⟩ u) := ⟨h.le, fun hn => by
  obtain ⟨cs, m, x, h1, h2, h3, h4⟩ := h.hd hn
  exact ⟨cs, m, x, blk_far h1 (hne hn) u, h2, h3, (World.cell?_of_block (a := ⟨b, 0, none⟩) (Below.heap_setCell w ⟨g, i, none⟩ u b (hne hn))).trans h4⟩⟩
/-- While an object is turned. -/
structure TO (w : World) (ρ : Nat → Role) (base r : Nat) (C : Array Value) (K : Nat) (L : Lay) (g : Gr) (f0 d b3 n3 e3 b4 n4 e4 : Nat) (wr : World) : Prop where
  tq : Tq w ρ base r C K L g wr
  blk : ∃ (cs : Array Value) (m : Nat), wr.heap[f0]? = some (.cells cs 62 (0, 0)) ∧ ρ f0 = .fix m ∧ d * 5 + 5 ≤ m
  q2 : ∃ s : Int, wr.cell? ⟨f0, d * 5 + 2, none⟩ = some (.int .i64 s)
  q3 : wr.cell? ⟨f0, d * 5 + 3, none⟩ = some (.slice (some ⟨b3, 0, none⟩) n3 e3)
  q4 : wr.cell? ⟨f0, d * 5 + 4, none⟩ = some (.slice (some ⟨b4, 0, none⟩) n4 e4)
  h3 : Hd .i64 3 ρ b3 n3 wr
  h4 : Hd .u64 25 ρ b4 n4 wr
section
variable {w wr : World} {ρ : Nat → Role} {base r K : Nat} {C : Array Value} {L : Lay} {g : Gr} {f0 d b3 n3 e3 b4 n4 e4 : Nat}
theorem TO.below {w2 : World} (h : TO w ρ base r C K L g f0 d b3 n3 e3 b4 n4 e4 wr) (hb : Below wr.heap.size wr w2) : TO w ρ base r C K L g f0 d b3 n3 e3 b4 n4 e4 w2 := by
  obtain ⟨cs, m, h1, h2, h3⟩ := h.blk
  obtain ⟨s, hs⟩ := h.q2
  exact ⟨h.tq.below hb, ⟨cs, m, blk_below h1 hb, h2, h3⟩, ⟨s, pw_cell_below hb hs⟩, pw_cell_below hb h.q3, pw_cell_below hb h.q4, h.h3.below hb, h.h4.below hb⟩
theorem TO.site (h : TO w ρ base r C K L g f0 d b3 n3 e3 b4 n4 e4 wr) (y : Int) : TO w ρ base r C K L g f0 d b3 n3 e3 b4 n4 e4 (wr.setCell ⟨f0, d * 5 + 2, none⟩ (.int .i64 y)) := by
  obtain ⟨cs, m, h1, h2, h3⟩ := h.blk
  obtain ⟨s, hs⟩ := h.q2
  have hb := blk_set h1 (d * 5 + 2) (.int .i64 y)
  have hlt : d * 5 + 2 < cs.size := by rw [blk_cell h1] at hs; exact (Array.getElem?_eq_some_iff.1 hs).1
  refine ⟨h.tq.put h2 (by omega) h1 (.inr (.inr ⟨rfl, rfl, by omega⟩)), ⟨_, m, hb, h2, h3⟩, ⟨y, ?_⟩, ?_, ?_, h.h3.far (fun hn => ?_), h.h4.far (fun hn => ?_)⟩
  · rw [blk_cell hb]; simp [hlt]
  · rw [blk_cell hb, Array.getElem?_setIfInBounds, if_neg (by omega), ← blk_cell h1]; exact h.q3
  · rw [blk_cell hb, Array.getElem?_setIfInBounds, if_neg (by omega), ← blk_cell h1]; exact h.q4
  · obtain ⟨cs3, m3, x, k1, -⟩ := h.h3.hd hn
    exact blk_ne k1 h1 (by decide)
  · obtain ⟨cs3, m3, x, k1, -⟩ := h.h4.hd hn
    exact blk_ne k1 h1 (by decide)
/-- A head is written. -/
theorem Hd.set {k : IntKind} {t b n : Nat} {wr : World} (h : Hd k t ρ b n wr) (hn : 0 < n) (y : Int) : Hd k t ρ b n (wr.setCell ⟨b, 0, none⟩ (.int k y)) := ⟨h.le, fun _ => by
  obtain ⟨cs, m, x, h1, h2, h3, h4⟩ := h.hd hn
  have hlt : 0 < cs.size := by rw [blk_cell h1] at h4; exact (Array.getElem?_eq_some_iff.1 h4).1
  refine ⟨_, m, y, blk_set h1 0 _, h2, h3, ?_⟩
  rw [blk_cell (blk_set h1 0 _)]
  simp [hlt]⟩
theorem TO.ptr (h : TO w ρ base r C K L g f0 d b3 n3 e3 b4 n4 e4 wr) (hn : 0 < n3) (y : Int) : TO w ρ base r C K L g f0 d b3 n3 e3 b4 n4 e4 (wr.setCell ⟨b3, 0, none⟩ (.int .i64 y)) := by
  obtain ⟨cs, m, h1, h2, h3⟩ := h.blk
  obtain ⟨s, hs⟩ := h.q2
  obtain ⟨cs3, m3, x, k1, k2, k3, k4⟩ := h.h3.hd hn
  have hne : f0 ≠ b3 := blk_ne h1 k1 (by decide)
  have hc : ∀ i, (wr.setCell ⟨b3, 0, none⟩ (.int .i64 y)).cell? ⟨f0, i, none⟩ = wr.cell? ⟨f0, i, none⟩ := fun i => World.cell?_of_block (a := ⟨f0, i, none⟩) (Below.heap_setCell wr ⟨b3, 0, none⟩ _ f0 hne)
  refine ⟨h.tq.put k2 k3 k1 (.inl ⟨rfl, rfl⟩), ⟨cs, m, blk_far h1 hne _, h2, h3⟩, ⟨s, (hc _).trans hs⟩, (hc _).trans h.q3, (hc _).trans h.q4, h.h3.set hn y, h.h4.far (fun hn4 => ?_)⟩
  obtain ⟨cs4, m4, x4, j1, -⟩ := h.h4.hd hn4
  exact blk_ne j1 k1 (by decide)
theorem TO.raw (h : TO w ρ base r C K L g f0 d b3 n3 e3 b4 n4 e4 wr) (hn : 0 < n4) {y : Int} (hy : inW y) : TO w ρ base r C K L g f0 d b3 n3 e3 b4 n4 e4 (wr.setCell ⟨b4, 0, none⟩ (.int .u64 y)) := by
  obtain ⟨cs, m, h1, h2, h3⟩ := h.blk
  obtain ⟨s, hs⟩ := h.q2
  obtain ⟨cs3, m3, x, k1, k2, k3, k4⟩ := h.h4.hd hn
  have hne : f0 ≠ b4 := blk_ne h1 k1 (by decide)
  have hc : ∀ i, (wr.setCell ⟨b4, 0, none⟩ (.int .u64 y)).cell? ⟨f0, i, none⟩ = wr.cell? ⟨f0, i, none⟩ := fun i => World.cell?_of_block (a := ⟨f0, i, none⟩) (Below.heap_setCell wr ⟨b4, 0, none⟩ _ f0 hne)
  refine ⟨h.tq.put k2 k3 k1 (.inr (.inl ⟨rfl, rfl, hy.1, hy.2⟩)), ⟨cs, m, blk_far h1 hne _, h2, h3⟩, ⟨s, (hc _).trans hs⟩, (hc _).trans h.q3, (hc _).trans h.q4, h.h3.far (fun hn3 => ?_), h.h4.set hn y⟩
  obtain ⟨cs4, m4, x4, j1, -⟩ := h.h3.hd hn3
  exact blk_ne j1 k1 (by decide)
end

/-- The first slot of all, as far as there is one. -/
theorem Tq.slot {w wr : World} {ρ : Nat → Role} {base r K f c : Nat} {C : Array Value} {A0 A2 A3 A4 : Option Addr} {c0 c2 c3 c4 : Nat} {g : Gr} (h : Tq w ρ base r C K ⟨A0, some ⟨f, 0, none⟩, A2, A3, A4, c0, c, c2, c3, c4⟩ g wr) :
    g.slots.length ≤ 1000000000 ∧ (0 < g.slots.length → ∃ bf nf ef, wr.cell? ⟨f, 0, none⟩ = some (.slice (some ⟨bf, 0, none⟩) nf ef) ∧ nf ≤ 1000000000 ∧
      (0 < nf → ∃ bs ns es, wr.cell? ⟨bf, 0, none⟩ = some (.slice (some ⟨bs, 0, none⟩) ns es) ∧ Hd .i64 3 ρ bs ns wr ∧ (0 < ns → bs ≠ f ∧ bs ≠ bf))) := by
  obtain ⟨g', hs, hl⟩ := h.lent
  have hlen : g'.slots.length = g.slots.length := by simpa using congrArg List.length hs.slots
  have h0 := hl.l1
  rw [hlen] at h0
  have h00 := h0
  obtain ⟨fx, cx, csx, mx, ex, _, hle, hbx, -⟩ := h00
  injection ex with ex1 ex2 ex3
  injection ex1 with ex1
  injection ex1 with ex1 _ _
  subst ex1
  refine ⟨by omega, fun hn => ?_⟩
  obtain ⟨u, x, hn2, hu, hp, -⟩ := LL.at_ h0 hn
  have hp2 := hp
  obtain ⟨bf, ef, csf, mf, rfl, _, hle2, hbf, -⟩ := hp
  refine ⟨bf, x.length, ef, hu, hle2, fun hn3 => ?_⟩
  obtain ⟨u2, y, hn4, hu2, hq, -⟩ := LL.at_ hp2 hn3
  have hq2 := hq
  obtain ⟨bs, es, css, ms, rfl, _, hle3, hbs, -⟩ := hq
  exact ⟨bs, y.length, es, hu2, LI.hd hq2, fun _ => ⟨blk_ne hbs hbx (by decide), blk_ne hbs hbf (by decide)⟩⟩
theorem Tq.handle {w wr : World} {ρ : Nat → Role} {base r K f c : Nat} {C : Array Value} {A0 A1 A3 A4 : Option Addr} {c0 c1 c3 c4 : Nat} {g : Gr} (h : Tq w ρ base r C K ⟨A0, A1, some ⟨f, 0, none⟩, A3, A4, c0, c1, c, c3, c4⟩ g wr) : Hd .i64 3 ρ f g.handles.length wr := by
  obtain ⟨g', hs, hl⟩ := h.lent
  have h0 := hl.l2
  rw [hs.handles] at h0
  exact LI.hd h0
/-- A slot, or a handle, is turned. -/
theorem Tq.head {w wr : World} {ρ : Nat → Role} {base r K b n : Nat} {C : Array Value} {L : Lay} {g : Gr} (h : Tq w ρ base r C K L g wr) (hd : Hd .i64 3 ρ b n wr) (hn : 0 < n) (y : Int) : Tq w ρ base r C K L g (wr.setCell ⟨b, 0, none⟩ (.int .i64 y)) := by
  obtain ⟨cs, m, x, k1, k2, k3, k4⟩ := hd.hd hn
  exact h.put k2 k3 k1 (.inl ⟨rfl, rfl⟩)

set_option maxHeartbeats 16000000 in
set_option maxRecDepth 100000 in
theorem turn_any (base r K : Nat) (C : Array Value) (ρ : Nat → Role) (f0 f1 f2 f3 f4 c0 c1 c2 c3 c4 : Nat) (g : Gr) (w : World) (hRm : Rm w ρ base r C K) (hL : Lent w ρ ⟨some ⟨f0, 0, none⟩, some ⟨f1, 0, none⟩, some ⟨f2, 0, none⟩, some ⟨f3, 0, none⟩, some ⟨f4, 0, none⟩, c0, c1, c2, c3, c4⟩ g) :
    Calls Tryd.prog 16 #[.agg (gcells ⟨some ⟨f0, 0, none⟩, some ⟨f1, 0, none⟩, some ⟨f2, 0, none⟩, some ⟨f3, 0, none⟩, some ⟨f4, 0, none⟩, c0, c1, c2, c3, c4⟩ g).toArray] w fun e w' => e = .returned (.tuple #[]) ∧ Tq w ρ base r C K ⟨some ⟨f0, 0, none⟩, some ⟨f1, 0, none⟩, some ⟨f2, 0, none⟩, some ⟨f3, 0, none⟩, some ⟨f4, 0, none⟩, c0, c1, c2, c3, c4⟩ g w' := by
  have HS := Aside0.mk (Tq.start hRm hL)
  obtain ⟨T, hT⟩ : ∃ T : World → Prop, T = Tq w ρ base r C K ⟨some ⟨f0, 0, none⟩, some ⟨f1, 0, none⟩, some ⟨f2, 0, none⟩, some ⟨f3, 0, none⟩, some ⟨f4, 0, none⟩, c0, c1, c2, c3, c4⟩ g := ⟨_, rfl⟩
  have HT := Aside0.mk hT
  clear hRm hL
  rw [← hT] at HS ⊢
  clear hT
  go_enter Tryd.func16, Tryd.ntmps16
  go_upto_if 8 with (fail)
  go_cut [] (fun wx => Aside0 (T wx))
  case first =>
    by_cases hn : 0 < g.objs.length
    · have HQ := HS
      rw [HT.out] at HQ
      obtain ⟨d, hd⟩ : ∃ d, d = g.objs.length / 2 := ⟨_, rfl⟩
      have hq : (g.objs.length : Int) / 2 = (d : Int) := by omega
      have hdl : d < g.objs.length := by omega
      clear hd
      obtain ⟨cs, m, o, b3, e3, b4, e4, hb, hρ, hm, hbd, q2, q3, q4, p3, p4⟩ := HQ.out.obj hdl
      have HO := Aside0.mk (show TO w ρ base r C K ⟨some ⟨f0, 0, none⟩, some ⟨f1, 0, none⟩, some ⟨f2, 0, none⟩, some ⟨f3, 0, none⟩, some ⟨f4, 0, none⟩, c0, c1, c2, c3, c4⟩ g f0 d b3 o.f3.length e3 b4 o.f4.length e4 _ from ⟨HQ.out, ⟨cs, m, hb, hρ, by omega⟩, ⟨_, q2⟩, q3, q4, LI.hd p3, LI.hd p4⟩)
      have hz := blk_frozen hb (d * 5 + 2)
      clear hb hρ p3 p4 HQ q3 q4
      go_upto_region 5 with (fail)
      generalize o.f3.length = n3 at HO
      generalize o.f4.length = n4 at HO
      refine wp_world (p := TO w ρ base r C K ⟨some ⟨f0, 0, none⟩, some ⟨f1, 0, none⟩, some ⟨f2, 0, none⟩, some ⟨f3, 0, none⟩, some ⟨f4, 0, none⟩, c0, c1, c2, c3, c4⟩ g f0 d b3 n3 e3 b4 n4 e4) (HO.out.site _) ?_
      clear q2 hz HO
      intro w1 ho
      have HO := Aside0.mk ho
      have q3 := ho.q3
      have l3 := ho.h3.le
      clear ho
      go_upto_if 27 with (fail)
      go_cut [3] (fun s3 wx => s3 = .pointer (some ⟨f0, d * 5, none⟩) ∧ Aside0 (TO w ρ base r C K ⟨some ⟨f0, 0, none⟩, some ⟨f1, 0, none⟩, some ⟨f2, 0, none⟩, some ⟨f3, 0, none⟩, some ⟨f4, 0, none⟩, c0, c1, c2, c3, c4⟩ g f0 d b3 n3 e3 b4 n4 e4 wx))
      case first =>
        by_cases h3 : 0 < n3
        · obtain ⟨cs3, m3, x3, hb3, hρ3, hm3, k3⟩ := HO.out.h3.hd h3
          have n3' : b3 ≠ f0 := by
            obtain ⟨cs, m, h1, -, -⟩ := HO.out.blk
            exact blk_ne hb3 h1 (by decide)
          have z3 := blk_frozen hb3 0
          clear hb3 hρ3 hm3
          go_wp2_with (fail)
          go_region_law (fail)
          all_goals
            go_wp2_with (fail)
            go_meet
            exact ⟨rfl, ⟨(HO.out.ptr h3 _).below (below_drew (Below.refl _ _))⟩⟩
        · go_wp2_with (fail)
          go_meet
          exact ⟨rfl, HO⟩
      case rest =>
        clear HO q3
        obtain ⟨rfl, HO⟩ := hcut
        have q4 := HO.out.q4
        have l4 := HO.out.h4.le
        go_upto_if 45 with (fail)
        by_cases h4 : 0 < n4
        · obtain ⟨cs4, m4, x4, hb4, hρ4, hm4, k4⟩ := HO.out.h4.hd h4
          have n4' : b4 ≠ f0 := by
            obtain ⟨cs, m, h1, -, -⟩ := HO.out.blk
            exact blk_ne hb4 h1 (by decide)
          have z4 := blk_frozen hb4 0
          clear hb4 hρ4 hm4
          go_wp2_with (fail)
          go_region_law (fail)
          all_goals
            go_wp2_with (fail)
            go_meet
            exact ⟨by rw [HT.out]; exact ((HO.out.raw h4 (inW_bits _ _)).below (below_drew (Below.refl _ _))).tq⟩
        · go_wp2_with (fail)
          go_meet
          exact ⟨by rw [HT.out]; exact HO.out.tq⟩
    · go_wp2_with (fail)
      go_meet
      exact HS
  case rest =>
    clear HS
    have HC := hcut
    rw [HT.out] at HC
    have hbx := HC.out.box
    have x1 : wc.cell? ⟨w.heap.size, 1, none⟩ = some (.slice (some ⟨f1, 0, none⟩) g.slots.length c1) := (blk_cell hbx 1).trans rfl
    obtain ⟨hsl, hsf⟩ := HC.out.slot
    have HSF := Aside0.mk hsf
    have HCT := Aside0.mk hcut.out
    clear hbx hsf hcut
    by_cases hs : 0 < g.slots.length
    · obtain ⟨bf, nf, ef, y1, hnf, hfs⟩ := HSF.out hs
      have HFS := Aside0.mk hfs
      clear hfs HSF
      by_cases hf : 0 < nf
      · obtain ⟨bs, ns, es, y2, hhd, hne⟩ := HFS.out hf
        have HHD := Aside0.mk hhd
        have hns := hhd.le
        clear hhd HFS
        go_upto_if 79 with (fail)
        go_cut [] (fun wx => Aside0 (T wx))
        case first =>
          by_cases hn : 0 < ns
          · obtain ⟨cs, m, x, k1, k2, k3, k4⟩ := HHD.out.hd hn
            have z := blk_frozen k1 0
            obtain ⟨ne1, ne2⟩ := hne hn
            clear k1 k2 k3
            go_wp2_with (fail)
            go_still_tail 16, (by kernel_rfl)
            change wpList _ _ _ _ _ wc.drew
            go_wp2_with (fail)
            go_meet
            exact ⟨by rw [HT.out]; exact (HC.out.head HHD.out hn _).below (below_drew (Below.refl _ _))⟩
          · go_wp2_with (fail)
            go_meet
            exact HCT
        case rest =>
          clear HCT y1 y2 x1 HHD
          have HCT := hcut
          clear hcut
          have HC2 := HCT
          rw [HT.out] at HC2
          have x2 : wc.cell? ⟨w.heap.size, 2, none⟩ = some (.slice (some ⟨f2, 0, none⟩) g.handles.length c2) := (blk_cell HC2.out.box 2).trans rfl
          have HHH := Aside0.mk HC2.out.handle
          have hhl := HHH.out.le
          have HCQ := HC2
          clear HC2
          by_cases hh : 0 < g.handles.length
          · obtain ⟨csh, mh, xh, kh1, kh2, kh3, kh4⟩ := HHH.out.hd hh
            have zh := blk_frozen kh1 0
            clear kh1 kh2 kh3
            go_wp2_with (fail)
            go_still_tail 8, (by kernel_rfl)
            change wpList _ _ _ _ _ wc.drew
            go_wp2_with (fail)
            go_end0
            exact ⟨rfl, by rw [HT.out]; exact (HCQ.out.head HHH.out hh _).below (below_drew (Below.refl _ _))⟩
          · go_wp2_with (fail)
            go_end0
            exact ⟨rfl, HCT.out⟩
      · clear HFS
        have HC2 := HCT
        rw [HT.out] at HC2
        have x2 : wc.cell? ⟨w.heap.size, 2, none⟩ = some (.slice (some ⟨f2, 0, none⟩) g.handles.length c2) := (blk_cell HC2.out.box 2).trans rfl
        have HHH := Aside0.mk HC2.out.handle
        have hhl := HHH.out.le
        have HCQ := HC2
        clear HC2
        by_cases hh : 0 < g.handles.length
        · obtain ⟨csh, mh, xh, kh1, kh2, kh3, kh4⟩ := HHH.out.hd hh
          have zh := blk_frozen kh1 0
          clear kh1 kh2 kh3
          go_wp2_with (fail)
          go_still_tail 8, (by kernel_rfl)
          change wpList _ _ _ _ _ wc.drew
          go_wp2_with (fail)
          go_end0
          exact ⟨rfl, by rw [HT.out]; exact (HCQ.out.head HHH.out hh _).below (below_drew (Below.refl _ _))⟩
        · go_wp2_with (fail)
          go_end0
          exact ⟨rfl, HCT.out⟩
    · clear HSF
      have HC2 := HCT
      rw [HT.out] at HC2
      have x2 : wc.cell? ⟨w.heap.size, 2, none⟩ = some (.slice (some ⟨f2, 0, none⟩) g.handles.length c2) := (blk_cell HC2.out.box 2).trans rfl
      have HHH := Aside0.mk HC2.out.handle
      have hhl := HHH.out.le
      have HCQ := HC2
      clear HC2
      by_cases hh : 0 < g.handles.length
      · obtain ⟨csh, mh, xh, kh1, kh2, kh3, kh4⟩ := HHH.out.hd hh
        have zh := blk_frozen kh1 0
        clear kh1 kh2 kh3
        go_wp2_with (fail)
        go_still_tail 8, (by kernel_rfl)
        change wpList _ _ _ _ _ wc.drew
        go_wp2_with (fail)
        go_end0
        exact ⟨rfl, by rw [HT.out]; exact (HCQ.out.head HHH.out hh _).below (below_drew (Below.refl _ _))⟩
      · go_wp2_with (fail)
        go_end0
        exact ⟨rfl, HCT.out⟩
end Go.Proofs.YtihjjkoddphmiaaDoor.img
