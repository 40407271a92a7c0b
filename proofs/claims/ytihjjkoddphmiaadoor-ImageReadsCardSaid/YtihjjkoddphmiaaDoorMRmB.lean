/-
  What was lent: lists that lie in blocks of their own, read and written.
-/
import Derived.Test.YtihjjkoddphmiaaDoorMRmA
namespace Go.Proofs.YtihjjkoddphmiaaDoor.img
open Go.RowKit Go.Proofs.YtihjjkoddphmiaaDoorW.PrintWords Go.Proofs.YtihjjkoddphmiaaDoorW.PrintLast Go.Proofs.YtihjjkoddphmiaaDoorW.PrintMore Go.Proofs.YtihjjkoddphmiaaDoor.PImageRound
set_option linter.unusedVariables false
set_option linter.unusedSimpArgs false

abbrev El (α : Type) := World → (Nat → Role) → Value → α → Prop
/-- A list that was lent: its elements lie in block f, ahead of place m. -/
def LL {α : Type} (P : El α) (t : Nat) : El (List α) := fun w ρ v xs =>
 ∃ f c cs m, v = .slice (some ⟨f, 0, none⟩) xs.length c ∧ xs.length ≤ c ∧ xs.length ≤ 1000000000 ∧ w.heap[f]? = some (.cells cs t (0, 0)) ∧ ρ f = .fix m ∧ xs.length ≤ m ∧ ∀ (j : Nat) (x : α), xs[j]? = some x → ∃ u, cs[j]? = some u ∧ P w ρ u x
def PI (k : IntKind) : El Int := fun _ _ u x => u = .int k x
abbrev LI (k : IntKind) (t : Nat) : El (List Int) := LL (PI k) t
/-- What was lent lies as it did. -/
def Lies (w : World) (ρ : Nat → Role) (w' : World) (ρ' : Nat → Role) : Prop := ∀ f m o, ρ f = .fix m → w.heap[f]? = some o → w'.heap[f]? = some o ∧ ρ' f = .fix m
theorem Ext.lies {w w1 : World} {ρ ρ1 : Nat → Role} (h : Ext w ρ w1 ρ1) : Lies w ρ w1 ρ1 := fun f m o hf ho =>
 ⟨(h.keep f (blk_lt ho) (fun e => by rw [hf] at e; cases e)).trans ho, (h.same f (blk_lt ho)).trans hf⟩
def Stay {α : Type} (P : El α) : Prop := ∀ (w w' : World) (ρ ρ' : Nat → Role) (u : Value) (x : α), Lies w ρ w' ρ' → P w ρ u x → P w' ρ' u x
theorem PI.stay (k : IntKind) : Stay (PI k) := fun _ _ _ _ _ _ _ h => h
theorem LL.stay {α : Type} {P : El α} {t : Nat} (hP : Stay P) : Stay (LL P t) := by
 rintro w w' ρ ρ' v xs h ⟨f, c, cs, m, e, h1, h2, h3, h4, h5, h6⟩
 refine ⟨f, c, cs, m, e, h1, h2, (h f m _ h4 h3).1, (h f m _ h4 h3).2, h5, fun j x hx => ?_⟩
 obtain ⟨u, hu, hp⟩ := h6 j x hx
 exact ⟨u, hu, hP _ _ _ _ _ _ h hp⟩
theorem LI.stay (k : IntKind) (t : Nat) : Stay (LI k t) := LL.stay (PI.stay k)
theorem LL.reads {α : Type} {P : El α} {t : Nat} {d : Kd α} {w : World} {ρ : Nat → Role} {v : Value} {xs : List α} (h : LL P t w ρ v xs) (hs : d.sz = 1) (hd : ∀ u x, P w ρ u x → d.K w x [u]) :
  ∃ A c, v = .slice A xs.length c ∧ xs.length ≤ c ∧ d.C w A xs.length xs := by
 obtain ⟨f, c, cs, m, e, h1, h2, h3, h4, h5, h6⟩ := h
 refine ⟨_, c, e, h1, rfl, by omega, fun _ => ⟨_, rfl, fun j p hj => ?_⟩⟩
 obtain ⟨u, hu, hp⟩ := h6 j p hj
 refine ⟨[u], by rw [hs]; rfl, hd u p hp, fun i x hx => ?_⟩
 rw [hs, Nat.mul_one, add_plain]
 have : i = 0 := by
  have := (List.getElem?_eq_some_iff.1 hx).1
  simpa using this
 subst this
 simp only [List.getElem?_cons_zero, Option.some.injEq] at hx
 subst hx
 exact (blk_cell h3 _).trans hu
theorem LI.reads {k : IntKind} {t : Nat} {w : World} {ρ : Nat → Role} {v : Value} {xs : List Int} (h : LI k t w ρ v xs) : ∃ A c, v = .slice A xs.length c ∧ xs.length ≤ c ∧ (Kd.int k).C w A xs.length xs :=
 LL.reads h rfl (fun u x hu => by rw [show u = .int k x from hu]; rfl)
end Go.Proofs.YtihjjkoddphmiaaDoor.img
