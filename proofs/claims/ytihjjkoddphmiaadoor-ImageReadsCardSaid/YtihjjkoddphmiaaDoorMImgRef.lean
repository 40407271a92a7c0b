/-
  The reference's rules in plain Lean: what the printed middenref16 comes to. Begun.
-/
import Derived.Test.YtihjjkoddphmiaaDoorMRef8
import Derived.Test.YtihjjkoddphmiaaDoorMRef6
import Derived.Test.YtihjjkoddphmiaaDoorMRef9
import Derived.Test.YtihjjkoddphmiaaDoorMIm3
namespace Go.Proofs.YtihjjkoddphmiaaDoor.img
open Go.RowKit Go.Proofs.YtihjjkoddphmiaaDoorW.PrintWords Go.Proofs.YtihjjkoddphmiaaDoorW.PrintLast Go.Proofs.YtihjjkoddphmiaaDoorW.PrintMore Go.Proofs.YtihjjkoddphmiaaDoor.PImageRound
set_option linter.unusedVariables false
set_option linter.unusedSimpArgs false

/-- between: all numbers from low to high. -/
theorem rbetween_l (l : List Int) (lo hi : Int) (hl : l.length ≤ 1000000) : ∀ (d i : Nat), l.length - i = d → i ≤ l.length → Ev (fun k => middenref16_between.l0 k l lo hi (i : Int)) (numsB hi lo (l.drop i)) := by
 intro d
 induction d with
 | zero =>
  intro i hd hle
  have e : i = l.length := by omega
  subst e
  refine Ev.step (f := fun _ => some true) (fun k => ?_) (by simpa [numsB] using Ev.now true)
  simp only [middenref16_between.l0]
  rw [if_neg (by omega)]
 | succ d ih =>
  intro i hd hle
  have hlt : i < l.length := by omega
  rw [drop_get l i 0 hlt]
  have hrd : rd l (i : Int) = l.getD i 0 := by simp [rd]
  have hc : ∀ (x : Int) (r : List Int), numsB hi lo (x :: r) = (if x < lo then false else if x > hi then false else numsB hi lo r) := by
   intro x r
   unfold numsB
   rw [List.all_cons]
   by_cases h1 : x < lo
   ·rw [if_pos h1, decide_eq_false (by omega)]; rfl
   ·by_cases h2 : x > hi
    ·rw [if_neg h1, if_pos h2, decide_eq_true (show lo ≤ x by omega), decide_eq_false (show ¬ x ≤ hi by omega)]; rfl
    ·rw [if_neg h1, if_neg h2, decide_eq_true (show lo ≤ x by omega), decide_eq_true (show x ≤ hi by omega)]; rfl
  rw [hc]
  by_cases h1 : l.getD i 0 < lo
  ·rw [if_pos h1]
   refine Ev.step (f := fun _ => some false) (fun k => ?_) (Ev.now false)
   simp only [middenref16_between.l0]
   rw [if_pos (by omega), if_pos (by omega), hrd, if_pos h1]
  ·rw [if_neg h1]
   by_cases h2 : l.getD i 0 > hi
   ·rw [if_pos h2]
    refine Ev.step (f := fun _ => some false) (fun k => ?_) (Ev.now false)
    simp only [middenref16_between.l0]
    rw [if_pos (by omega), if_pos (by omega), hrd, if_neg h1, if_pos h2]
   ·rw [if_neg h2]
    refine Ev.step (fun k => ?_) (ih (i + 1) (by omega) (by omega))
    simp only [middenref16_between.l0]
    rw [if_pos (by omega), if_pos (by omega), hrd, if_neg h1, if_neg h2, wrap_small (by omega)]
    rfl
theorem rbetween_ev (l : List Int) (lo hi : Int) (hl : l.length ≤ 1000000) : Ev (fun k => middenref16_between.f k l lo hi) (numsB hi lo l) := by
 have := rbetween_l l lo hi hl l.length 0 (by omega) (by omega)
 simpa [middenref16_between.f] using this
/-- finals. -/
theorem rfinals_l (g : Gr) (hl : g.objs.length ≤ 1000000) : ∀ (d i : Nat) (acc : List Int), g.objs.length - i = d → i ≤ g.objs.length → acc.length ≤ i → Ev (fun k => middenref16_finals.l0 k acc (i : Int) g.objs g.slots g.handles g.registry g.queue g.next) (acc ++ finalsFrom i (g.objs.drop i)) := by
 intro d
 induction d with
 | zero =>
  intro i acc hd hi ha
  have e : i = g.objs.length := by omega
  subst e
  refine Ev.step (f := fun _ => some acc) (fun k => ?_) (by simpa [finalsFrom] using Ev.now acc)
  simp only [middenref16_finals.l0]
  rw [if_neg (by omega)]
 | succ d ih =>
  intro i acc hd hi ha
  have hlt : i < g.objs.length := by omega
  rw [drop_get g.objs i z62 hlt]
  have hrd : rd_T62 g.objs (i : Int) = g.objs.getD i z62 := by simp [rd_T62]
  by_cases h : (g.objs.getD i z62).f1 = 4
  ·have := ih (i + 1) (acc ++ [(i : Int) + 1]) (by omega) (by omega) (by simp; omega)
   have he : acc ++ finalsFrom i (g.objs.getD i z62 :: g.objs.drop (i + 1)) = (acc ++ [(i : Int) + 1]) ++ finalsFrom (i + 1) (g.objs.drop (i + 1)) := by
    rw [finalsFrom, if_pos h]; simp
   rw [he]
   refine Ev.step (fun k => ?_) this
   simp only [middenref16_finals.l0]
   rw [if_pos (by omega), if_pos (by omega), hrd, if_pos h, if_pos (by omega), wrap_small (by omega)]
   rfl
  ·have := ih (i + 1) acc (by omega) (by omega) (by omega)
   have he : acc ++ finalsFrom i (g.objs.getD i z62 :: g.objs.drop (i + 1)) = acc ++ finalsFrom (i + 1) (g.objs.drop (i + 1)) := by
    rw [finalsFrom, if_neg h]
   rw [he]
   refine Ev.step (fun k => ?_) this
   simp only [middenref16_finals.l0]
   rw [if_pos (by omega), if_pos (by omega), hrd, if_neg h, wrap_small (by omega)]
   rfl
theorem rfinals_ev (g : Gr) (hl : g.objs.length ≤ 1000000) : Ev (fun k => middenref16_finals.f k g.objs g.slots g.handles g.registry g.queue g.next) (finals g.objs) := by
 have := rfinals_l g hl g.objs.length 0 [] (by omega) (by omega) (by simp)
 simpa [middenref16_finals.f, finals] using this

/-- lists: the queue's loop. -/
theorem rlists_l1 (g : Gr) (hm : Mild g) (hq : numsB g.objs.length 1 g.queue = true) : ∀ (d : Nat) (i : Nat) (seen : List Bool), g.queue.length - i = d → i ≤ g.queue.length → seen.length = g.objs.length + 1 →
  Ev (fun k => middenref16_lists.l1 k seen (i : Int) g.objs g.slots g.handles g.registry g.queue g.next) (queueB g.objs seen (g.queue.drop i)) := by
 intro d
 have h1 := hm.queue
 have h2 := hm.objs
 induction d with
 | zero =>
  intro i seen hd hi hs
  have e : i = g.queue.length := by omega
  subst e
  refine Ev.step (f := fun _ => some true) (fun k => ?_) (by simpa [queueB] using Ev.now true)
  simp only [middenref16_lists.l1]
  rw [if_neg (by omega)]
 | succ d ih =>
  intro i seen hd hi hs
  have hlt : i < g.queue.length := by omega
  rw [drop_get g.queue i 0 hlt]
  have hrd : rd g.queue (i : Int) = g.queue.getD i 0 := by simp [rd]
  have hmem : g.queue.getD i 0 ∈ g.queue := by
   rw [List.getD_eq_getElem?_getD, List.getElem?_eq_getElem hlt]
   exact List.getElem_mem hlt
  have hb := nums_get hq hmem
  generalize g.queue.getD i 0 = n at hrd hb ⊢
  have hrs : rdOf false seen n = seen.getD n.toNat false := by simp [rdOf]
  have hro : rd_T62 g.objs (n - 1) = g.objs.getD (n - 1).toNat z62 := by simp [rd_T62]
  by_cases c1 : seen.getD n.toNat false = true
  ·refine Ev.step (f := fun _ => some false) (fun k => ?_) (by rw [queueB, if_pos c1]; exact Ev.now false)
   simp only [middenref16_lists.l1]
   rw [if_pos (by omega), if_pos (by omega), hrd, if_pos (by omega), if_pos (by omega), hrs, if_pos c1]
  by_cases c2 : (g.objs.getD (n - 1).toNat z62).f1 = 4
  ·refine Ev.step (f := fun _ => some false) (fun k => ?_) (by rw [queueB, if_neg c1, if_pos c2]; exact Ev.now false)
   simp only [middenref16_lists.l1]
   rw [if_pos (by omega), if_pos (by omega), hrd, if_pos (by omega), if_pos (by omega), hrs, if_neg c1, wrap_small (by omega), if_pos (by omega), if_pos (by omega), hro, if_pos c2]
  ·rw [queueB, if_neg c1, if_neg c2]
   refine Ev.step (fun k => ?_) (ih (i + 1) (seen.set n.toNat true) (by omega) (by omega) (by simpa using hs))
   simp only [middenref16_lists.l1]
   rw [if_pos (by omega), if_pos (by omega), hrd, if_pos (by omega), if_pos (by omega), hrs, if_neg c1, wrap_small (by omega), if_pos (by omega), if_pos (by omega), hro, if_neg c2, wrap_small (by omega)]
   rfl
/-- The registry's loop. -/
theorem rlists_l0 (g : Gr) (hm : Mild g) (hq : numsB g.objs.length 1 g.queue = true) (fin : List Int) (hf : fin.length = g.registry.length) : ∀ (d : Nat) (i : Nat), fin.length - i = d → i ≤ fin.length →
  Ev (fun k => middenref16_lists.l0 k fin (i : Int) g.objs g.slots g.handles g.registry g.queue g.next) (decide (fin.drop i = g.registry.drop i) && queueB g.objs (List.replicate (g.objs.length + 1) false) g.queue) := by
 intro d
 have h1 := hm.registry
 have h2 := hm.objs
 induction d with
 | zero =>
  intro i hd hi
  have e : i = fin.length := by omega
  subst e
  have := rlists_l1 g hm hq g.queue.length 0 (List.replicate (g.objs.length + 1) false) (by omega) (by omega) (by simp)
  have he : (decide (fin.drop fin.length = g.registry.drop fin.length) && queueB g.objs (List.replicate (g.objs.length + 1) false) g.queue) = queueB g.objs (List.replicate (g.objs.length + 1) false) (g.queue.drop 0) := by
   rw [List.drop_eq_nil_of_le (Nat.le_refl _), List.drop_eq_nil_of_le (by omega)]
   simp
  rw [he]
  refine Ev.step (fun k => ?_) this
  simp only [middenref16_lists.l0]
  rw [if_neg (by omega), wrap_small (by omega), if_pos (by omega), if_pos (by omega)]
  have e2 : ((g.objs.length : Int) + 1).toNat = g.objs.length + 1 := by omega
  rw [e2]
  rfl
 | succ d ih =>
  intro i hd hi
  have hlt : i < fin.length := by omega
  have hrd : rd g.registry (i : Int) = g.registry.getD i 0 := by simp [rd]
  have hrf : rd fin (i : Int) = fin.getD i 0 := by simp [rd]
  rw [drop_get fin i 0 hlt, drop_get g.registry i 0 (by omega)]
  by_cases c : fin.getD i 0 = g.registry.getD i 0
  ·have he : decide (fin.getD i 0 :: fin.drop (i + 1) = g.registry.getD i 0 :: g.registry.drop (i + 1)) = decide (fin.drop (i + 1) = g.registry.drop (i + 1)) := by
    rw [c]; simp
   rw [he]
   refine Ev.step (fun k => ?_) (ih (i + 1) (by omega) (by omega))
   simp only [middenref16_lists.l0]
   rw [if_pos (by omega), if_pos (by omega), if_pos (by omega), hrd, hrf, if_pos c, wrap_small (by omega)]
   rfl
  ·have he : decide (fin.getD i 0 :: fin.drop (i + 1) = g.registry.getD i 0 :: g.registry.drop (i + 1)) = false := by
    rw [decide_eq_false_iff_not]
    intro e
    injection e with e _
    exact c e
   rw [he]
   refine Ev.step (f := fun _ => some false) (fun k => ?_) (by simpa using Ev.now false)
   simp only [middenref16_lists.l0]
   rw [if_pos (by omega), if_pos (by omega), if_pos (by omega), hrd, hrf, if_neg c]
/-- lists: the finals are the registry, and the queue may be. -/
theorem rlists_ev (g : Gr) (hm : Mild g) : Ev (fun k => middenref16_lists.f k g.objs g.slots g.handles g.registry g.queue g.next) (numsB g.objs.length 1 g.queue && regB g) := by
 have h2 := hm.objs
 refine Ev.congr (fun k => rfl) (Ev.bind (rfinals_ev g h2) ?_)
 by_cases c : (finals g.objs).length = g.registry.length
 ·refine Ev.congr (fun k => if_pos (by omega)) (Ev.bind (rbetween_ev g.queue 1 g.objs.length hm.queue) ?_)
  cases hq : numsB g.objs.length 1 g.queue with
  | false =>
   refine Ev.step (f := fun _ => some false) (fun k => ?_) (by simpa using Ev.now false)
   simp only [middenref16_lists.j0]
   rfl
  | true =>
   have h := rlists_l0 g hm hq (finals g.objs) c (finals g.objs).length 0 (by omega) (by omega)
   have e : (true && regB g) = (decide ((finals g.objs).drop 0 = g.registry.drop 0) && queueB g.objs (List.replicate (g.objs.length + 1) false) g.queue) := by
    unfold regB
    rw [if_pos c]
    simp
   rw [e]
   refine Ev.step (fun k => ?_) h
   simp only [middenref16_lists.j0]
   rfl
 ·refine Ev.congr (f := fun k => middenref16_lists.j0 k (finals g.objs) true g.objs g.slots g.handles g.registry g.queue g.next) (fun k => if_neg (by omega)) ?_
  have e : (numsB g.objs.length 1 g.queue && regB g) = false := by
   unfold regB
   rw [if_neg c]
   simp
  rw [e]
  refine Ev.step (f := fun _ => some false) (fun k => ?_) (Ev.now false)
  simp only [middenref16_lists.j0]
  rfl
end Go.Proofs.YtihjjkoddphmiaaDoor.img
