/-
  The reference's known, as a search over one list, comes to what image.known comes to (plain Lean).
-/
import Derived.Test.YtihjjkoddphmiaaGreatDoorNRefSlots
namespace Go.Proofs.YtihjjkoddphmiaaGreatDoor.img
open Go.RowKit Go.Proofs.YtihjjkoddphmiaaGreatDoorW.PrintWords Go.Proofs.YtihjjkoddphmiaaGreatDoorW.PrintLast Go.Proofs.YtihjjkoddphmiaaGreatDoorW.PrintMore Go.Proofs.YtihjjkoddphmiaaGreatDoor.PImageApart
set_option linter.unusedVariables false
set_option linter.unusedSimpArgs false

/-- Marks that differ at place 0 alone. -/
structure Like (a b : Seen) : Prop where
 len : a.1.length = b.1.length
 at_ : ∀ i, 0 < i → a.1.getD i false = b.1.getD i false
 work : a.2 = b.2
theorem getD_set {l : List Bool} {i j : Nat} (h : i < l.length) : (l.set i true).getD j false = if i = j then true else l.getD j false := by
 rw [List.getD_eq_getElem?_getD, List.getD_eq_getElem?_getD, List.getElem?_set]
 by_cases e : i = j
 ·subst e; rw [if_pos rfl, if_pos h, if_pos rfl]; rfl
 ·rw [if_neg e, if_neg e]
theorem Like.see1 {a b : Seen} (h : Like a b) {x : Int} (hx : x < (a.1.length : Int)) : Like (see1 a x) (see1 b x) := by
 unfold img.see1
 by_cases h0 : 0 < x
 ·rw [if_pos h0, if_pos h0]
  have e := h.at_ x.toNat (by omega)
  rw [e]
  by_cases hc : b.1.getD x.toNat false = true
  ·rw [if_pos hc, if_pos hc]; exact h
  ·rw [if_neg hc, if_neg hc]
   refine ⟨by simpa using h.len, fun i hi => ?_, by simp [h.work]⟩
   have hl := h.len
   simp only
   rw [getD_set (by omega), getD_set (by omega), h.at_ i hi]
 ·rw [if_neg h0, if_neg h0]; exact h
theorem Like.seeL {a b : Seen} (l : List Int) : Like a b → (∀ x ∈ l, x < (a.1.length : Int)) → Like (seeL a l) (seeL b l) := by
 induction l generalizing a b with
 | nil => intro h _; exact h
 | cons x r ih =>
  intro h hx
  exact ih (h.see1 (hx x (by simp))) (fun y hy => by rw [see1_len]; exact hx y (by simp [hy]))
theorem seeL_app (s : Seen) (l m : List Int) : seeL s (l ++ m) = seeL (seeL s l) m := by simp [seeL, List.foldl_append]
theorem seeF_flat (s : Seen) (fr : List (List Int)) : seeF s fr = seeL s fr.flatten := by
 induction fr generalizing s with
 | nil => rfl
 | cons f r ih => rw [List.flatten_cons, seeL_app, ← ih]; rfl
theorem seeS_flat (s : Seen) (sl : List (List (List Int))) : seeS s sl = seeL s sl.flatten.flatten := by
 induction sl generalizing s with
 | nil => rfl
 | cons f r ih =>
  have := ih (seeF s f)
  rw [seeF_flat] at this
  rw [List.flatten_cons, List.flatten_append, seeL_app, ← this, ← seeF_flat]
  rfl
def rootL (g : Gr) : List Int := ((g.slots.flatten.flatten ++ g.handles) ++ g.queue) ++ g.registry
theorem roots_flat (g : Gr) : roots g = seeL (seen0 g.objs.length) (rootL g) := by
 unfold roots rootL
 rw [seeS_flat, seeL_app, seeL_app, seeL_app]
/-- What was found grows at its end alone. -/
theorem see1_pre (s : Seen) (x : Int) : ∃ m, (see1 s x).2 = s.2 ++ m := by
 unfold see1
 split
 ·split
  ·exact ⟨[], by simp⟩
  ·exact ⟨[x], rfl⟩
 ·exact ⟨[], by simp⟩
theorem seeL_pre (l : List Int) : ∀ s : Seen, ∃ m, (seeL s l).2 = s.2 ++ m := by
 induction l with
 | nil => intro s; exact ⟨[], by simp [seeL]⟩
 | cons x r ih =>
  intro s
  obtain ⟨m, hm⟩ := ih (see1 s x)
  obtain ⟨m', hm'⟩ := see1_pre s x
  exact ⟨m' ++ m, by rw [show seeL s (x :: r) = seeL (see1 s x) r from rfl, hm, hm', List.append_assoc]⟩

/-- Whom an object points at. -/
def ptrs (g : Gr) (x : Int) : List Int := (g.objs.getD (x - 1).toNat z66).f3
/-- The search: the list T, what was seen, the place i. -/
def kn (g : Gr) : Nat → List Int → Seen → Nat → Option Bool
 | 0, _, _, _ => none
 | k + 1, T, s, i =>
  if i < T.length then
   if T.getD i 0 ≤ (g.objs.length : Int) ∧ s.1.length = g.objs.length + 1 ∧ s.2.length ≤ 2000000 ∧ T.length ≤ 2000000000000 then
    if 0 < T.getD i 0 ∧ s.1.getD (T.getD i 0).toNat false = false then kn g k (T ++ ptrs g (T.getD i 0)) (s.1.set (T.getD i 0).toNat true, s.2 ++ [T.getD i 0]) (i + 1)
    else kn g k T s (i + 1)
   else none
  else some (decide (s.2.length = g.objs.length))
/-- What goes on behind. -/
abbrev L2 (g : Gr) (T : List Int) (s : Seen) (i : Nat) : Nat → Option Bool := fun k => kn g k T s i
/-- A piece of the list is gone through. -/
theorem known_piece {g : Gr} (hp : Pts g) (hn : g.objs.length ≤ 1000000) {r : Bool} : ∀ (l : List Int) (T rest : List Int) (s : Seen) (i : Nat), Ok g.objs.length s → (∀ x ∈ l, x ≤ (g.objs.length : Int)) → T.drop i = l ++ rest → i + l.length + rest.length = T.length → T.length ≤ 2000000000 + s.2.length * 1000000 →
  (∀ T' s', s' = seeL s l → T'.drop (i + l.length) = rest ++ ((s'.2).drop s.2.length).flatMap (ptrs g) → i + l.length + (rest ++ ((s'.2).drop s.2.length).flatMap (ptrs g)).length = T'.length → T'.length ≤ 2000000000 + s'.2.length * 1000000 → Ok g.objs.length s' → Ev (L2 g T' s' (i + l.length)) r) → Ev (L2 g T s i) r := by
 intro l
 induction l with
 | nil =>
  intro T rest s i ho hx hT hlen hb hk
  have := hk T s rfl (by simpa using hT) (by simpa using hlen) hb ho
  simpa using this
 | cons x l ih =>
  intro T rest s i ho hx hT hlen hb hk
  have hlt : i < T.length := by simp at hlen; omega
  have hrd : T.getD i 0 = x := by
   have h1 : (T.drop i)[0]? = some x := by rw [hT]; rfl
   rw [List.getElem?_drop, Nat.add_zero] at h1
   simp [List.getD_eq_getElem?_getD, h1]
  have hil := ho.inv.le
  have hol := ho.len
  have hdrop : T.drop (i + 1) = l ++ rest := by
   rw [← List.drop_drop, hT]; rfl
  have hxn := hx x (by simp)
  have hgd : x ≤ (g.objs.length : Int) ∧ s.1.length = g.objs.length + 1 ∧ s.2.length ≤ 2000000 ∧ T.length ≤ 2000000000000 := ⟨hxn, hol, by omega, by omega⟩
  by_cases hc : 0 < x ∧ s.1.getD x.toNat false = false
  ·have hs1 : see1 s x = (s.1.set x.toNat true, s.2 ++ [x]) := by unfold see1; rw [if_pos hc.1, if_neg (by rw [hc.2]; decide)]
   have hmem : g.objs.getD (x - 1).toNat z66 ∈ g.objs := get_mem (by omega)
   have hpl : (ptrs g x).length ≤ 1000000 := (hp.objs _ hmem).1
   have ho1 : Ok g.objs.length (see1 s x) := by
    have := ho.seeL (l := [x]) (by simpa using hxn)
    exact this
   have hl1 : (see1 s x).2.length = s.2.length + 1 := by rw [hs1]; simp
   have hdrop2 : (T ++ ptrs g x).drop (i + 1) = l ++ (rest ++ ptrs g x) := by
    rw [List.drop_append_of_le_length (by omega), hdrop, List.append_assoc]
   refine Ev.step (fun k => ?_) (ih (T ++ ptrs g x) (rest ++ ptrs g x) (see1 s x) (i + 1) ho1 (fun y hy => hx y (by simp [hy])) hdrop2 (by simp at hlen ⊢; omega) (by rw [hl1]; simp; omega) (fun T' s' e h1 h2 h3 h4 => ?_))
   ·simp only [L2, kn]
    rw [hrd, if_pos hlt, if_pos hgd, if_pos hc, hs1]
   ·obtain ⟨m, hm⟩ := seeL_pre l (see1 s x)
    have hs' : s'.2 = s.2 ++ ([x] ++ m) := by rw [e, hm, hs1]; simp
    have hd1 : (s'.2).drop s.2.length = [x] ++ m := by rw [hs', List.drop_left]
    have hd2 : (s'.2).drop (see1 s x).2.length = m := by
     rw [hs', hl1, ← List.append_assoc, show s.2.length + 1 = (s.2 ++ [x]).length by simp, List.drop_left]
    have hfl : rest ++ ((s'.2).drop s.2.length).flatMap (ptrs g) = (rest ++ ptrs g x) ++ ((s'.2).drop (see1 s x).2.length).flatMap (ptrs g) := by
     rw [hd1, hd2]
     simp
    have := hk T' s' e (by rw [hfl]; simpa [Nat.add_assoc, Nat.add_comm 1] using h1) (by rw [hfl]; simpa [Nat.add_assoc, Nat.add_comm 1] using h2) h3 h4
    simpa [Nat.add_assoc, Nat.add_comm 1] using this
  ·have hs1 : see1 s x = s := by
    unfold see1
    by_cases h0 : 0 < x
    ·rw [if_pos h0, if_pos (by cases h : s.1.getD x.toNat false with | true => rfl | false => exact absurd ⟨h0, h⟩ hc)]
    ·rw [if_neg h0]
   have hstep : seeL s (x :: l) = seeL s l := by rw [show seeL s (x :: l) = seeL (see1 s x) l from rfl, hs1]
   refine Ev.step (fun k => ?_) (ih T rest s (i + 1) ho (fun y hy => hx y (by simp [hy])) hdrop (by simp at hlen; omega) hb (fun T' s' e h1 h2 h3 h4 => ?_))
   ·simp only [L2, kn]
    rw [hrd, if_pos hlt, if_pos hgd, if_neg hc]
   ·have := hk T' s' (by rw [hstep]; exact e) (by simpa [Nat.add_assoc, Nat.add_comm 1] using h1) (by simpa [Nat.add_assoc, Nat.add_comm 1] using h2) h3 h4
    simpa [Nat.add_assoc, Nat.add_comm 1] using this

theorem getD_of_lt {α : Type} {l : List α} {i : Nat} {d : α} (h : i < l.length) : l.getD i d = l[i] := by rw [List.getD_eq_getElem?_getD, List.getElem?_eq_getElem h]; rfl
/-- All that is found is gone through, as image.known does. -/
theorem known_work {g : Gr} (hp : Pts g) (hn : g.objs.length ≤ 1000000) : ∀ (f j : Nat) (T : List Int) (s b : Seen) (i : Nat), Like s b → Ok g.objs.length s → T.drop i = (s.2.drop j).flatMap (ptrs g) → i + ((s.2.drop j).flatMap (ptrs g)).length = T.length → T.length ≤ 2000000000 + s.2.length * 1000000 → g.objs.length + 2 ≤ j + f →
  Ev (L2 g T s i) (decide ((workFrom g.objs f j b).2.length = g.objs.length)) := by
 intro f
 have stop : ∀ (j : Nat) (T : List Int) (s b : Seen) (i : Nat), Like s b → Ok g.objs.length s → i + ((s.2.drop j).flatMap (ptrs g)).length = T.length → s.2.length ≤ j → Ev (L2 g T s i) (decide (b.2.length = g.objs.length)) := by
  intro j T s b i hlk ho hlen hj
  have h0 : s.2.drop j = [] := List.drop_eq_nil_of_le hj
  rw [h0] at hlen
  rw [← hlk.work]
  refine Ev.step (f := fun _ => some (decide (s.2.length = g.objs.length))) (fun k => ?_) (Ev.now _)
  simp only [L2, kn]
  rw [if_neg (by simp at hlen; omega)]
 induction f with
 | zero =>
  intro j T s b i hlk ho hT hlen hb hf
  have hil := ho.inv.le
  have hol := ho.len
  exact stop j T s b i hlk ho hlen (by omega)
 | succ f ih =>
  intro j T s b i hlk ho hT hlen hb hf
  have hw := hlk.work
  rw [workFrom]
  by_cases hj : j < b.2.length
  ·rw [if_pos hj]
   have hjs : j < s.2.length := by rw [hw]; exact hj
   have hd : s.2.drop j = s.2.getD j 0 :: s.2.drop (j + 1) := drop_get s.2 j 0 hjs
   have hx := ho.pos (s.2.getD j 0) (by rw [getD_of_lt hjs]; exact List.getElem_mem hjs)
   have hmem : g.objs.getD (s.2.getD j 0 - 1).toNat z66 ∈ g.objs := get_mem (by omega)
   have hpt := hp.objs _ hmem
   rw [hd, List.flatMap_cons] at hT hlen
   refine known_piece hp hn (ptrs g (s.2.getD j 0)) T ((s.2.drop (j + 1)).flatMap (ptrs g)) s i ho hpt.2 hT (by simpa [Nat.add_assoc] using hlen) hb (fun T' s' e h1 h2 h3 h4 => ?_)
   obtain ⟨m, hm⟩ := seeL_pre (ptrs g (s.2.getD j 0)) s
   have hs' : s'.2 = s.2 ++ m := by rw [e, hm]
   have hfl : (s.2.drop (j + 1)).flatMap (ptrs g) ++ (s'.2.drop s.2.length).flatMap (ptrs g) = (s'.2.drop (j + 1)).flatMap (ptrs g) := by
    rw [hs', List.drop_left, List.drop_append_of_le_length (by omega), List.flatMap_append]
   have hb' : seeL b (g.objs.getD (b.2.getD j 0 - 1).toNat z66).f3 = seeL b (ptrs g (s.2.getD j 0)) := by rw [hw]; rfl
   rw [hb']
   refine ih (j + 1) T' s' (seeL b (ptrs g (s.2.getD j 0))) _ ?_ h4 (by rw [← hfl]; exact h1) (by rw [← hfl]; exact h2) h3 (by omega)
   rw [e]
   exact hlk.seeL _ (fun y hy => by have := hpt.2 y hy; have := ho.len; omega)
  ·rw [if_neg hj]
   exact stop j T s b i hlk ho (by simpa using hlen) (by rw [hw]; omega)
/-- The marks at the beginning. -/
theorem like_start (n : Nat) : Like (List.replicate (n + 1) false, []) (seen0 n) := by
 refine ⟨by simp [seen0], fun i hi => ?_, rfl⟩
 unfold seen0
 simp only
 rw [getD_set (by simp), if_neg (by omega)]
theorem ok_start (n : Nat) : Ok n ((List.replicate (n + 1) false, []) : Seen) := ⟨by simp, by simp [Inv], by simp⟩
/-- Once the roots are listed. -/
theorem known_ready {g : Gr} (hp : Pts g) (hn : g.objs.length ≤ 1000000) (hr : (rootL g).length ≤ 1000000000) :
  Ev (L2 g (rootL g) (List.replicate (g.objs.length + 1) false, []) 0) (knownB g) := by
 have hroot : ∀ x ∈ rootL g, x ≤ (g.objs.length : Int) := by
  intro x hx
  unfold rootL at hx
  simp only [List.mem_append] at hx
  rcases hx with ((hx | hx) | hx) | hx
  ·rw [List.mem_flatten] at hx
   obtain ⟨f, hf, hx⟩ := hx
   rw [List.mem_flatten] at hf
   obtain ⟨fr, hfr, hf⟩ := hf
   exact hp.slots fr hfr f hf x hx
  ·exact hp.handles x hx
  ·exact hp.queue x hx
  ·exact hp.registry x hx
 refine known_piece hp hn (rootL g) (rootL g) [] _ 0 (ok_start _) hroot (by simp) (by simp) (by simp; omega) (fun T' s' e h1 h2 h3 h4 => ?_)
 unfold knownB
 rw [roots_flat]
 refine known_work hp hn (g.objs.length + 2) 0 T' s' (seeL (seen0 g.objs.length) (rootL g)) _ ?_ h4 (by simpa using h1) (by simpa using h2) h3 (by omega)
 rw [e]
 exact (like_start _).seeL _ (fun y hy => by have := hroot y hy; simp; omega)
end Go.Proofs.YtihjjkoddphmiaaGreatDoor.img
