/-
  What was lent: lists that lie in blocks of their own, read and written.
-/
import Derived.Test.YtihjjkoddphmiaaDoorKRmA
namespace Go.Proofs.YtihjjkoddphmiaaDoor.img
open Go.RowKit Go.Proofs.YtihjjkoddphmiaaDoorW.PrintWords Go.Proofs.YtihjjkoddphmiaaDoorW.PrintLast Go.Proofs.YtihjjkoddphmiaaDoorW.PrintMore Go.Proofs.YtihjjkoddphmiaaDoor.PImageRound
set_option linter.unusedVariables false
set_option linter.unusedSimpArgs false

abbrev El (α : Type) := World → (Nat → Role) → Value → α → Prop
/-- A list that was lent: its elements lie in block f, ahead of place m. -/
def LL {α : Type} (P : El α) (t : Nat) : El (List α) := fun w ρ v xs =>
  ∃ f c cs m, v = .slice (some ⟨f, 0, none⟩) xs.length c ∧ xs.length ≤ c ∧ xs.length ≤ 1000000000 ∧ w.heap[f]? = some (.cells cs t (0, 0)) ∧ ρ f = .fix m ∧ xs.length ≤ m ∧ ∀ (j : Nat) (x : α), xs[j]? = some x → ∃ u, cs[j]? = some u ∧ P w ρ u x
def PI (k : IntKind) : El Int := fun _ _ u x => u = .int k x
abbrev LI (k : IntKind) (t : Nat) : El (List Int) := LL (PI k) t
abbrev LF : El (List (List Int)) := LL (LI .i64 3) 24
abbrev LS : El (List (List (List Int))) := LL LF 31
/-- Objects that were lent. -/
def LO : El (List S62) := fun w ρ v xs =>
  ∃ f c cs m, v = .slice (some ⟨f, 0, none⟩) xs.length c ∧ xs.length ≤ c ∧ xs.length ≤ 1000000000 ∧ w.heap[f]? = some (.cells cs 62 (0, 0)) ∧ ρ f = .fix m ∧ xs.length * 5 ≤ m ∧
    ∀ (j : Nat) (o : S62), xs[j]? = some o → ∃ v3 v4, cs[j * 5]? = some (.int .u64 o.f0) ∧ cs[j * 5 + 1]? = some (.int .i64 o.f1) ∧ cs[j * 5 + 2]? = some (.int .i64 o.f2) ∧ cs[j * 5 + 3]? = some v3 ∧ cs[j * 5 + 4]? = some v4 ∧ LI .i64 3 w ρ v3 o.f3 ∧ LI .u64 25 w ρ v4 o.f4

/-- What was lent lies as it did. -/
def Lies (w : World) (ρ : Nat → Role) (w' : World) (ρ' : Nat → Role) : Prop := ∀ f m o, ρ f = .fix m → w.heap[f]? = some o → w'.heap[f]? = some o ∧ ρ' f = .fix m
theorem Ext.lies {w w1 : World} {ρ ρ1 : Nat → Role} (h : Ext w ρ w1 ρ1) : Lies w ρ w1 ρ1 := fun f m o hf ho =>
  ⟨(h.keep f (blk_lt ho) (fun e => by rw [hf] at e; cases e)).trans ho, (h.same f (blk_lt ho)).trans hf⟩
theorem Lies.refl (w : World) (ρ : Nat → Role) : Lies w ρ w ρ := fun f m o h k => ⟨k, h⟩
theorem Lies.trans {w w1 w2 : World} {ρ ρ1 ρ2 : Nat → Role} (h : Lies w ρ w1 ρ1) (k : Lies w1 ρ1 w2 ρ2) : Lies w ρ w2 ρ2 := fun f m o hf ho => k f m o (h f m o hf ho).2 (h f m o hf ho).1
theorem Lies.up {w : World} {ρ : Nat → Role} {f : Nat} (hw : ρ f = .work) (x : Role) : Lies w ρ w (up ρ f x) := fun g m o hg ho => ⟨ho, by
  rw [up_ne _ (fun e => by rw [e, hw] at hg; cases hg)]
  exact hg⟩
def Stay {α : Type} (P : El α) : Prop := ∀ (w w' : World) (ρ ρ' : Nat → Role) (u : Value) (x : α), Lies w ρ w' ρ' → P w ρ u x → P w' ρ' u x
theorem PI.stay (k : IntKind) : Stay (PI k) := fun _ _ _ _ _ _ _ h => h
theorem LL.stay {α : Type} {P : El α} {t : Nat} (hP : Stay P) : Stay (LL P t) := by
  rintro w w' ρ ρ' v xs h ⟨f, c, cs, m, e, h1, h2, h3, h4, h5, h6⟩
  refine ⟨f, c, cs, m, e, h1, h2, (h f m _ h4 h3).1, (h f m _ h4 h3).2, h5, fun j x hx => ?_⟩
  obtain ⟨u, hu, hp⟩ := h6 j x hx
  exact ⟨u, hu, hP _ _ _ _ _ _ h hp⟩
theorem LI.stay (k : IntKind) (t : Nat) : Stay (LI k t) := LL.stay (PI.stay k)
theorem LF.stay : Stay LF := LL.stay (LI.stay _ _)
theorem LS.stay : Stay LS := LL.stay LF.stay
theorem LO.stay : Stay LO := by
  rintro w w' ρ ρ' v xs h ⟨f, c, cs, m, e, h1, h2, h3, h4, h5, h6⟩
  refine ⟨f, c, cs, m, e, h1, h2, (h f m _ h4 h3).1, (h f m _ h4 h3).2, h5, fun j o hx => ?_⟩
  obtain ⟨v3, v4, a, b, c, d, e, hp, hq⟩ := h6 j o hx
  exact ⟨v3, v4, a, b, c, d, e, LI.stay _ _ _ _ _ _ _ _ h hp, LI.stay _ _ _ _ _ _ _ _ h hq⟩

theorem LL.reads {α : Type} {P : El α} {t : Nat} {d : Kd α} {w : World} {ρ : Nat → Role} {v : Value} {xs : List α} (h : LL P t w ρ v xs) (hs : d.sz = 1) (hd : ∀ u x, P w ρ u x → d.K w x [u]) :
    ∃ A c, v = .slice A xs.length c ∧ xs.length ≤ c ∧ d.C w A xs.length xs := by
  obtain ⟨f, c, cs, m, e, h1, h2, h3, h4, h5, h6⟩ := h
  refine ⟨_, c, e, h1, rfl, by omega, fun _ => ⟨_, rfl, fun j p hj => ?_⟩⟩
  obtain ⟨u, hu, hp⟩ := h6 j p hj
  refine ⟨[u], by rw [hs]; rfl, hd u p hp, fun i x hx => ?_⟩
  rw [hs, Nat.mul_one, add_plain]
  have : i = 0 := by
    have := (List.getElem?_eq_some_iff.1 hx).1
    simpa using this
  subst this
  simp only [List.getElem?_cons_zero, Option.some.injEq] at hx
  subst hx
  exact (blk_cell h3 _).trans hu
theorem LI.reads {k : IntKind} {t : Nat} {w : World} {ρ : Nat → Role} {v : Value} {xs : List Int} (h : LI k t w ρ v xs) : ∃ A c, v = .slice A xs.length c ∧ xs.length ≤ c ∧ (Kd.int k).C w A xs.length xs :=
  LL.reads h rfl (fun u x hu => by rw [show u = .int k x from hu]; rfl)
theorem LI.kd {t : Nat} {w : World} {ρ : Nat → Role} {v : Value} {xs : List Int} (h : LI .i64 t w ρ v xs) (e : Nat) : (Kd.slice e (Kd.int .i64)).K w xs [v] := by
  obtain ⟨A, c, rfl, hc, hC⟩ := h.reads
  exact ⟨A, c, rfl, hc, hC⟩
theorem LF.reads {w : World} {ρ : Nat → Role} {v : Value} {xs : List (List Int)} (h : LF w ρ v xs) : ∃ A c, v = .slice A xs.length c ∧ xs.length ≤ c ∧ (Kd.slice 3 (Kd.int .i64)).C w A xs.length xs :=
  LL.reads h rfl (fun u x hu => LI.kd hu 3)
theorem LF.kd {w : World} {ρ : Nat → Role} {v : Value} {xs : List (List Int)} (h : LF w ρ v xs) (e : Nat) : (Kd.slice e (Kd.slice 3 (Kd.int .i64))).K w xs [v] := by
  obtain ⟨A, c, rfl, hc, hC⟩ := h.reads
  exact ⟨A, c, rfl, hc, hC⟩
theorem LS.reads {w : World} {ρ : Nat → Role} {v : Value} {xs : List (List (List Int))} (h : LS w ρ v xs) : ∃ A c, v = .slice A xs.length c ∧ xs.length ≤ c ∧ (Kd.slice 24 (Kd.slice 3 (Kd.int .i64))).C w A xs.length xs :=
  LL.reads h rfl (fun u x hu => LF.kd hu 24)
theorem LO.reads {w : World} {ρ : Nat → Role} {v : Value} {xs : List S62} (h : LO w ρ v xs) : ∃ A c, v = .slice A xs.length c ∧ xs.length ≤ c ∧ k62.C w A xs.length xs := by
  obtain ⟨f, c, cs, m, e, h1, h2, h3, h4, h5, h6⟩ := h
  refine ⟨_, c, e, h1, rfl, by omega, fun _ => ⟨_, rfl, fun j o hj => ?_⟩⟩
  obtain ⟨v3, v4, q0, q1, q2, q3, q4, hp, hq⟩ := h6 j o hj
  obtain ⟨A3, c3, rfl, l3, C3⟩ := hp.reads
  obtain ⟨A4, c4, rfl, l4, C4⟩ := hq.reads
  refine ⟨[.int .u64 o.f0, .int .i64 o.f1, .int .i64 o.f2, .slice A3 o.f3.length c3, .slice A4 o.f4.length c4], rfl, k62_mk w o l3 C3 l4 C4, fun i x hx => ?_⟩
  rw [show k62.sz = 5 from rfl, add_plain, blk_cell h3]
  have hi : i < 5 := by simpa using (List.getElem?_eq_some_iff.1 hx).1
  obtain rfl | rfl | rfl | rfl | rfl : i = 0 ∨ i = 1 ∨ i = 2 ∨ i = 3 ∨ i = 4 := by omega
  all_goals
    simp at hx
    subst hx
    assumption
/-- A graph that was lent. -/
structure Lent (w : World) (ρ : Nat → Role) (L : Lay) (g : Gr) : Prop where
  l0 : LO w ρ (.slice L.A0 g.objs.length L.c0) g.objs
  l1 : LS w ρ (.slice L.A1 g.slots.length L.c1) g.slots
  l2 : LI .i64 3 w ρ (.slice L.A2 g.handles.length L.c2) g.handles
  l3 : LI .i64 3 w ρ (.slice L.A3 g.registry.length L.c3) g.registry
  l4 : LI .i64 3 w ρ (.slice L.A4 g.queue.length L.c4) g.queue
theorem Lent.rd {w : World} {ρ : Nat → Role} {L : Lay} {g : Gr} (h : Lent w ρ L g) : Rd w L g := by
  obtain ⟨A0, c0, e0, h0, C0⟩ := h.l0.reads
  obtain ⟨A1, c1, e1, h1, C1⟩ := h.l1.reads
  obtain ⟨A2, c2, e2, h2, C2⟩ := h.l2.reads
  obtain ⟨A3, c3, e3, h3, C3⟩ := h.l3.reads
  obtain ⟨A4, c4, e4, h4, C4⟩ := h.l4.reads
  injection e0 with e0 _ e0'; injection e1 with e1 _ e1'; injection e2 with e2 _ e2'; injection e3 with e3 _ e3'; injection e4 with e4 _ e4'
  subst e0 e1 e2 e3 e4 e0' e1' e2' e3' e4'
  exact ⟨C0, C1, C2, C3, C4, h0, h1, h2, h3, h4⟩
theorem Lent.stay {w w' : World} {ρ ρ' : Nat → Role} {L : Lay} {g : Gr} (h : Lent w ρ L g) (hl : Lies w ρ w' ρ') : Lent w' ρ' L g :=
  ⟨LO.stay _ _ _ _ _ _ hl h.l0, LS.stay _ _ _ _ _ _ hl h.l1, LI.stay _ _ _ _ _ _ _ _ hl h.l2, LI.stay _ _ _ _ _ _ _ _ hl h.l3, LI.stay _ _ _ _ _ _ _ _ hl h.l4⟩
end Go.Proofs.YtihjjkoddphmiaaDoor.img
