/-
  How many numbers the roots of a graph hold that was read: no more than there are bytes.
-/
import Derived.Test.YtihjjkoddphmiaaGreatDoorNRefTo
import Derived.Test.YtihjjkoddphmiaaGreatDoorNRefKn
namespace Go.Proofs.YtihjjkoddphmiaaGreatDoor.img
open Go.RowKit Go.Proofs.YtihjjkoddphmiaaGreatDoorW.PrintWords Go.Proofs.YtihjjkoddphmiaaGreatDoorW.PrintLast Go.Proofs.YtihjjkoddphmiaaGreatDoorW.PrintMore Go.Proofs.YtihjjkoddphmiaaGreatDoor.PImageApart
set_option linter.unusedVariables false
set_option linter.unusedSimpArgs false

structure Pr (gr : Bool) (last lastP : Int) (O P : List S66) : Prop where
 low : 0 ≤ last ∧ last ≤ 4611686018427387904
 len : O.length = P.length
 like : O.map (fun o => (o.f1, o.f2, o.f3, o.f4)) = P.map (fun o => (o.f1, o.f2, o.f3, o.f4))
 short : ∀ o ∈ O, o.f3.length ≤ 1000000 ∧ o.f4.length ≤ 1000000
 fine : gr = false → O = P ∧ last = lastP
 over : gr = true → ∃ o ∈ P, 4611686018427387904 < o.f0
theorem Pr.start : Pr false 0 0 [] [] := ⟨by omega, rfl, rfl, by simp, fun _ => ⟨rfl, rfl⟩, fun h => by cases h⟩
theorem Pr.push {gr g : Bool} {last lastP step : Int} {O P : List S66} {o : S66} (h : Pr gr last lastP O P) (k : Obk last step o g) : Pr (gr || g) o.f0 (ser lastP step) (O ++ [o]) (P ++ [⟨ser lastP step, o.f1, o.f2, o.f3, o.f4⟩]) := by
 refine ⟨k.low, by simp [h.len], by rw [List.map_append, List.map_append, h.like]; rfl, fun x hx => ?_, fun e => ?_, fun e => ?_⟩
 ·rcases List.mem_append.1 hx with hx | hx
  ·exact h.short x hx
  ·rw [List.mem_singleton.1 hx]; exact ⟨k.l3, k.l4⟩
 ·obtain ⟨e1, e2⟩ := Bool.or_eq_false_iff.1 e
  obtain ⟨rfl, rfl⟩ := h.fine e1
  obtain ⟨f1, f2⟩ := k.fine e2
  have es : ser last step = o.f0 := by show min _ _ = _; omega
  rw [es]
  exact ⟨rfl, rfl⟩
 ·rcases Bool.or_eq_true_iff.1 e with e | e
  ·obtain ⟨x, hx, hlt⟩ := h.over e
   exact ⟨x, List.mem_append.2 (.inl hx), hlt⟩
  ·cases hg : gr with
   | true =>
    obtain ⟨x, hx, hlt⟩ := h.over hg
    exact ⟨x, List.mem_append.2 (.inl hx), hlt⟩
   | false =>
    obtain ⟨rfl, rfl⟩ := h.fine hg
    have := k.over e
    exact ⟨_, List.mem_append.2 (.inr (List.mem_singleton.2 rfl)), by show _ < min _ _; omega⟩
theorem many_step {σ α γ : Type} (each : σ → Nat → Res (α × σ)) (d : Nat) (s : σ) (p : Nat) (K : List α × σ → Nat → Res γ) : (many each (d + 1) s p).bind K = (each s p).bind fun x p => (many each d x.2 p).bind fun y p => K (x.1 :: y.1, y.2) p := by
 simp only [many, Res.bind_assoc, Res.ok_bind]
theorem from_low {n next : Int} : ∀ (l : List S66) (last : Int), objsFrom n next last l = true → ∀ o ∈ l, o.f0 < next
 | [], _, _ => by simp
 | x :: r, last, h => by
  unfold objsFrom at h
  by_cases h1 : x.f0 ≤ last
  ·rw [if_pos h1] at h; cases h
  rw [if_neg h1] at h
  by_cases h2 : next ≤ x.f0
  ·rw [if_pos h2] at h; cases h
  rw [if_neg h2] at h
  split at h
  ·cases h
  ·split at h
   ·intro o ho
    rcases List.mem_cons.1 ho with rfl | ho
    ·omega
    ·exact from_low r _ h o ho
   ·cases h
/-- A graph with a serial that is too great may not be. -/
theorem ok_high {g : Gr} (h : ∃ o ∈ g.objs, 4611686018427387904 < o.f0) : okB g = false := by
 obtain ⟨o, ho, hlt⟩ := h
 cases hk : okB g with
 | false => rfl
 | true =>
  exfalso
  unfold okB at hk
  split at hk
  ·rename_i ho1
   unfold objsB at ho1
   split at ho1
   ·cases ho1
   ·split at ho1
    ·cases ho1
    ·have := from_low _ _ ho1 o ho
     omega
  ·cases hk
theorem finals_like : ∀ (O P : List S66) (i : Nat), O.map (fun o => (o.f1, o.f2, o.f3, o.f4)) = P.map (fun o => (o.f1, o.f2, o.f3, o.f4)) → finalsFrom i O = finalsFrom i P
 | [], [], _, _ => rfl
 | [], _ :: _, _, h => by simp at h
 | _ :: _, [], _, h => by simp at h
 | x :: r, y :: t, i, h => by
  simp only [List.map_cons, List.cons.injEq, Prod.mk.injEq] at h
  obtain ⟨⟨h1, -⟩, h2⟩ := h
  unfold finalsFrom
  rw [h1, finals_like r t (i + 1) h2]
end Go.Proofs.YtihjjkoddphmiaaGreatDoor.img
namespace Go.Proofs.YtihjjkoddphmiaaGreatDoor.img
open Go.RowKit Go.Proofs.YtihjjkoddphmiaaGreatDoorW.PrintWords Go.Proofs.YtihjjkoddphmiaaGreatDoorW.PrintLast Go.Proofs.YtihjjkoddphmiaaGreatDoorW.PrintMore Go.Proofs.YtihjjkoddphmiaaGreatDoor.PImageApart
set_option linter.unusedVariables false
set_option linter.unusedSimpArgs false

theorem num_adv {b : List Int} {most f : Nat} : ∀ (d i pos n v q : Nat), i + d = 10 → numAt b most f i pos n = .ok v q → pos + 1 ≤ q := by
 intro d
 induction d with
 | zero =>
  intro i pos n v q hi h
  rw [numAt_end (by omega)] at h
  cases h
 | succ d ih =>
  intro i pos n v q hi h
  rw [numAt_step (by omega)] at h
  by_cases h1 : b.length ≤ pos
  ·rw [if_pos h1] at h; cases h
  ·rw [if_neg h1] at h
   split at h
   ·cases h
   ·split at h
    ·split at h
     ·cases h
     ·injection h with e1 e2
      omega
    ·have := ih _ _ _ _ _ (by omega) h
     omega
section
variable {σ α : Type}
theorem many_adv {each : σ → Nat → Res (α × σ)} (wt : α → Nat) (h : ∀ s p x q, each s p = .ok x q → p + wt x.1 ≤ q) : ∀ (n : Nat) (s : σ) (p : Nat) (y : List α × σ) (q : Nat), many each n s p = .ok y q → p + (y.1.map wt).sum ≤ q
 | 0, s, p, y, q, hh => by
  injection hh with h1 h2
  subst h1
  simp [h2]
 | n + 1, s, p, y, q, hh => by
  rw [many] at hh
  obtain ⟨x, p1, h1, h2⟩ := bind_ok hh
  obtain ⟨z, p2, h3, h4⟩ := bind_ok h2
  injection h4 with h4 h5
  subst h4
  have a := many_adv wt h n _ _ _ _ h3
  have c := h _ _ _ _ h1
  simp only [List.map_cons, List.sum_cons]
  omega
theorem lst_adv {b : List Int} {each : σ → Nat → Res (α × σ)} (wt : α → Nat) (h : ∀ s p x q, each s p = .ok x q → p + wt x.1 ≤ q) {s : σ} {p q : Nat} {y : List α × σ} (hh : lst b each s p = .ok y q) : p + (y.1.map wt).sum ≤ q := by
 unfold lst at hh
 obtain ⟨n, r, h1, h2⟩ := bind_ok hh
 by_cases hc : b.length - r < n
 ·rw [if_pos hc] at h2; cases h2
 rw [if_neg hc] at h2
 have a := many_adv wt h _ _ _ _ _ h2
 have c := num_adv 10 0 _ _ _ _ rfl h1
 omega
end
theorem sum_ones {α : Type} (l : List α) : (l.map fun _ => 1).sum = l.length := by
 induction l with
 | nil => rfl
 | cons a r ih => simp only [List.map_cons, List.sum_cons, ih, List.length_cons]; omega
theorem ints_adv {b : List Int} {more : Int} {s : Unit} {p q : Nat} {y : List Int × Unit} (h : ints b more s p = .ok y q) : p + y.1.length ≤ q := by
 have := lst_adv (fun _ => 1) (fun s p x q h => by
  obtain ⟨n, r, h1, h2⟩ := bind_ok h
  obtain ⟨m, r', h3, h4⟩ := bind_ok h1
  have c := num_adv 10 0 _ _ _ _ rfl h3
  injection h2 with _ e
  injection h4 with _ e'
  show p + 1 ≤ q
  omega) h
 rwa [sum_ones] at this
theorem frames_adv {b : List Int} {s : Unit} {p q : Nat} {y : List (List Int) × Unit} (h : frames b s p = .ok y q) : p + (y.1.map List.length).sum ≤ q := lst_adv List.length (fun s p x q h => ints_adv h) h
theorem slots_adv {b : List Int} {s : Unit} {p q : Nat} {y : List (List (List Int)) × Unit} (h : lst b (frames b) s p = .ok y q) : p + (y.1.map fun fr => (fr.map List.length).sum).sum ≤ q := lst_adv _ (fun s p x q h => frames_adv h) h
theorem flat2_is (l : List (List (List Int))) : l.flatten.flatten.length = (l.map fun fr => (fr.map List.length).sum).sum := by
 induction l with
 | nil => rfl
 | cons a r ih =>
  rw [List.flatten_cons, List.flatten_append, List.length_append, ih, List.length_flatten]
  simp only [List.map_cons, List.sum_cons]
theorem graph_root {b : List Int} {pos p : Nat} {g : Gr} (h : graph b pos = .ok g p) (hp : p ≤ b.length) : (rootL (whole g)).length ≤ b.length + b.length + b.length + b.length := by
 have hf := graph_fits h
 unfold graph at h
 obtain ⟨next, p0, h0, h⟩ := bind_ok h
 obtain ⟨objs, p1, h1, h⟩ := bind_ok h
 obtain ⟨slots, p2, h2, h⟩ := bind_ok h
 obtain ⟨handles, p3, h3, h⟩ := bind_ok h
 obtain ⟨queue, p4, h4, h⟩ := bind_ok h
 injection h with h e
 subst h
 have a := slots_adv h2
 have b1 := ints_adv h3
 have b2 := ints_adv h4
 have c := finalsFrom_len objs.1 0
 have d : objs.1.length ≤ b.length := hf.objs
 unfold rootL
 show (((slots.1.flatten.flatten ++ handles.1) ++ queue.1) ++ finals objs.1).length ≤ _
 simp only [List.length_append]
 rw [flat2_is]
 unfold finals
 omega
end Go.Proofs.YtihjjkoddphmiaaGreatDoor.img
