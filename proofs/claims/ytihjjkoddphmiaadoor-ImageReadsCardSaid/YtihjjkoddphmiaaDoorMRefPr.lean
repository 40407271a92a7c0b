/-
  The objects as the reference reads them, and as the reader does.
-/
import Derived.Test.YtihjjkoddphmiaaDoorMRefTo
namespace Go.Proofs.YtihjjkoddphmiaaDoor.img
open Go.RowKit Go.Proofs.YtihjjkoddphmiaaDoorW.PrintWords Go.Proofs.YtihjjkoddphmiaaDoorW.PrintLast Go.Proofs.YtihjjkoddphmiaaDoorW.PrintMore Go.Proofs.YtihjjkoddphmiaaDoor.PImageRound
set_option linter.unusedVariables false
set_option linter.unusedSimpArgs false

structure Pr (gr : Bool) (last lastP : Int) (O P : List S62) : Prop where
 low : 0 ≤ last ∧ last ≤ 4611686018427387904
 len : O.length = P.length
 like : O.map (fun o => (o.f1, o.f2, o.f3, o.f4)) = P.map (fun o => (o.f1, o.f2, o.f3, o.f4))
 short : ∀ o ∈ O, o.f3.length ≤ 1000000 ∧ o.f4.length ≤ 1000000
 fine : gr = false → O = P ∧ last = lastP
 over : gr = true → ∃ o ∈ P, 4611686018427387904 < o.f0
theorem Pr.start : Pr false 0 0 [] [] := ⟨by omega, rfl, rfl, by simp, fun _ => ⟨rfl, rfl⟩, fun h => by cases h⟩
theorem Pr.push {gr g : Bool} {last lastP step : Int} {O P : List S62} {o : S62} (h : Pr gr last lastP O P) (k : Obk last step o g) : Pr (gr || g) o.f0 (ser lastP step) (O ++ [o]) (P ++ [⟨ser lastP step, o.f1, o.f2, o.f3, o.f4⟩]) := by
 refine ⟨k.low, by simp [h.len], by rw [List.map_append, List.map_append, h.like]; rfl, fun x hx => ?_, fun e => ?_, fun e => ?_⟩
 ·rcases List.mem_append.1 hx with hx | hx
  ·exact h.short x hx
  ·rw [List.mem_singleton.1 hx]; exact ⟨k.l3, k.l4⟩
 ·obtain ⟨e1, e2⟩ := Bool.or_eq_false_iff.1 e
  obtain ⟨rfl, rfl⟩ := h.fine e1
  obtain ⟨f1, f2⟩ := k.fine e2
  have es : ser last step = o.f0 := by show min _ _ = _; omega
  rw [es]
  exact ⟨rfl, rfl⟩
 ·rcases Bool.or_eq_true_iff.1 e with e | e
  ·obtain ⟨x, hx, hlt⟩ := h.over e
   exact ⟨x, List.mem_append.2 (.inl hx), hlt⟩
  ·cases hg : gr with
   | true =>
    obtain ⟨x, hx, hlt⟩ := h.over hg
    exact ⟨x, List.mem_append.2 (.inl hx), hlt⟩
   | false =>
    obtain ⟨rfl, rfl⟩ := h.fine hg
    have := k.over e
    exact ⟨_, List.mem_append.2 (.inr (List.mem_singleton.2 rfl)), by show _ < min _ _; omega⟩
theorem many_step {σ α γ : Type} (each : σ → Nat → Res (α × σ)) (d : Nat) (s : σ) (p : Nat) (K : List α × σ → Nat → Res γ) : (many each (d + 1) s p).bind K = (each s p).bind fun x p => (many each d x.2 p).bind fun y p => K (x.1 :: y.1, y.2) p := by
 simp only [many, Res.bind_assoc, Res.ok_bind]
theorem from_low {n next : Int} : ∀ (l : List S62) (last : Int), objsFrom n next last l = true → ∀ o ∈ l, o.f0 < next
 | [], _, _ => by simp
 | x :: r, last, h => by
  unfold objsFrom at h
  by_cases h1 : x.f0 ≤ last
  ·rw [if_pos h1] at h; cases h
  rw [if_neg h1] at h
  by_cases h2 : next ≤ x.f0
  ·rw [if_pos h2] at h; cases h
  rw [if_neg h2] at h
  split at h
  ·cases h
  ·split at h
   ·intro o ho
    rcases List.mem_cons.1 ho with rfl | ho
    ·omega
    ·exact from_low r _ h o ho
   ·cases h
/-- A graph with a serial that is too great may not be. -/
theorem ok_high {g : Gr} (h : ∃ o ∈ g.objs, 4611686018427387904 < o.f0) : okB g = false := by
 obtain ⟨o, ho, hlt⟩ := h
 cases hk : okB g with
 | false => rfl
 | true =>
  exfalso
  unfold okB at hk
  split at hk
  ·rename_i ho1
   unfold objsB at ho1
   split at ho1
   ·cases ho1
   ·split at ho1
    ·cases ho1
    ·have := from_low _ _ ho1 o ho
     omega
  ·cases hk
theorem finals_like : ∀ (O P : List S62) (i : Nat), O.map (fun o => (o.f1, o.f2, o.f3, o.f4)) = P.map (fun o => (o.f1, o.f2, o.f3, o.f4)) → finalsFrom i O = finalsFrom i P
 | [], [], _, _ => rfl
 | [], _ :: _, _, h => by simp at h
 | _ :: _, [], _, h => by simp at h
 | x :: r, y :: t, i, h => by
  simp only [List.map_cons, List.cons.injEq, Prod.mk.injEq] at h
  obtain ⟨⟨h1, -⟩, h2⟩ := h
  unfold finalsFrom
  rw [h1, finals_like r t (i + 1) h2]
end Go.Proofs.YtihjjkoddphmiaaDoor.img
