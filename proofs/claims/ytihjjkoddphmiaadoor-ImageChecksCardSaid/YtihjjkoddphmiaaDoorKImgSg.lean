/-
  The law's sameGraph says true of a graph and itself.
-/
import Derived.Test.YtihjjkoddphmiaaDoorKIm5
import Derived.Test.YtihjjkoddphmiaaDoorKPImageRoundx4
import Derived.Test.YtihjjkoddphmiaaDoorKPImageRoundx5
namespace Go.Proofs.YtihjjkoddphmiaaDoor.img
open Go.RowKit Go.Proofs.YtihjjkoddphmiaaDoorW.PrintWords Go.Proofs.YtihjjkoddphmiaaDoorW.PrintLast Go.Proofs.YtihjjkoddphmiaaDoorW.PrintMore Go.Proofs.YtihjjkoddphmiaaDoor.PImageRound
set_option linter.unusedVariables false
set_option linter.unusedSimpArgs false

theorem si_l (l : List Int) (hl : l.length ≤ 131072) : ∀ (d i : Nat), l.length - i = d → i ≤ l.length → Ev (fun k => middenlaw16_sameInts.l0 k l l (i : Int)) true := by
  intro d
  induction d with
  | zero =>
    intro i hd hi
    refine Ev.step (f := fun _ => some true) (fun k => ?_) (Ev.now true)
    simp only [middenlaw16_sameInts.l0]
    rw [if_neg (by omega)]
  | succ d ih =>
    intro i hd hi
    refine Ev.step (fun k => ?_) (ih (i + 1) (by omega) (by omega))
    simp only [middenlaw16_sameInts.l0]
    rw [if_pos (by omega), if_pos (by omega), if_pos (by omega), if_pos trivial, wrap_small (by omega)]
    rfl
theorem si_ev (l : List Int) (hl : l.length ≤ 131072) : Ev (fun k => middenlaw16_sameInts.f k l l) true := by
  refine Ev.congr (fun k => ?_) (si_l l hl l.length 0 (by omega) (by omega))
  unfold middenlaw16_sameInts.f
  rw [if_pos rfl]
  rfl
theorem so_l (a b c a1 b1 c1 : Int) (l m l1 : List Int) (hm : m.length ≤ 131072) : ∀ (d i : Nat), m.length - i = d → i ≤ m.length → Ev (fun k => middenlaw16_sameObject.l0 k (i : Int) a b c l m a1 b1 c1 l1 m) true := by
  intro d
  induction d with
  | zero =>
    intro i hd hi
    refine Ev.step (f := fun _ => some true) (fun k => ?_) (Ev.now true)
    simp only [middenlaw16_sameObject.l0]
    rw [if_neg (by omega)]
  | succ d ih =>
    intro i hd hi
    refine Ev.step (fun k => ?_) (ih (i + 1) (by omega) (by omega))
    simp only [middenlaw16_sameObject.l0]
    rw [if_pos (by omega), if_pos (by omega), if_pos (by omega), if_pos trivial, wrap_small (by omega)]
    rfl
theorem so_ev (a b c : Int) (l m : List Int) (hl : l.length ≤ 131072) (hm : m.length ≤ 131072) : Ev (fun k => middenlaw16_sameObject.f k a b c l m a b c l m) true := by
  refine Ev.congr (f := fun k => (middenlaw16_sameInts.f k l l).bind fun t148 => (if t148 = true then (middenlaw16_sameObject.j0 k ((m.length : Int) != (m.length : Int)) a b c l m a b c l m) else (middenlaw16_sameObject.j0 k true a b c l m a b c l m))) (fun k => ?_) ?_
  · unfold middenlaw16_sameObject.f
    rw [if_pos rfl, if_pos rfl, if_pos rfl]
  · refine Ev.bind (si_ev l hl) ?_
    refine Ev.congr (f := fun k => middenlaw16_sameObject.j0 k ((m.length : Int) != (m.length : Int)) a b c l m a b c l m) (fun k => if_pos rfl) ?_
    refine Ev.step (fun k => ?_) (so_l a b c a b c l m l hm m.length 0 (by omega) (by omega))
    simp only [middenlaw16_sameObject.j0]
    rw [if_neg (by simp)]
    rfl


theorem sg_l2 (g : Gr) (hn : Near g) (t : Nat) (ht : t < g.slots.length) (H : Ev (fun k => middenlaw16_sameGraph.l1 k ((t : Int) + 1) g.objs g.slots g.handles g.registry g.queue g.next g.objs g.slots g.handles g.registry g.queue g.next) true) :
    ∀ (d i : Nat), (g.slots.getD t []).length - i = d → i ≤ (g.slots.getD t []).length → Ev (fun k => middenlaw16_sameGraph.l2 k (t : Int) (i : Int) g.objs g.slots g.handles g.registry g.queue g.next g.objs g.slots g.handles g.registry g.queue g.next) true := by
  have h2 := hn.slots
  have hfr := hn.frames _ (getD_mem (z := []) ht)
  have hrd : rd_L5 g.slots (t : Int) = g.slots.getD t [] := by simp [rd_L5]
  intro d
  induction d with
  | zero =>
    intro i hd hi
    refine Ev.step (fun k => ?_) H
    simp only [middenlaw16_sameGraph.l2]
    rw [if_pos (by omega), if_pos (by omega), hrd, if_neg (by omega), wrap_small (by omega)]
  | succ d ih =>
    intro i hd hi
    have hrf : rd_L2 (g.slots.getD t []) (i : Int) = (g.slots.getD t []).getD i [] := by simp [rd_L2]
    have hf := hfr.2 _ (getD_mem (z := []) (l := g.slots.getD t []) (i := i) (by omega))
    refine Ev.step (f := fun k => (middenlaw16_sameInts.f k ((g.slots.getD t []).getD i []) ((g.slots.getD t []).getD i [])).bind fun t166 => (if t166 = true then (middenlaw16_sameGraph.l2 k (t : Int) ((i + 1 : Nat) : Int) g.objs g.slots g.handles g.registry g.queue g.next g.objs g.slots g.handles g.registry g.queue g.next) else (some false))) (fun k => ?_) ?_
    · simp only [middenlaw16_sameGraph.l2]
      rw [if_pos (by omega), if_pos (by omega), hrd, if_pos (by omega), if_pos (by omega), if_pos (by omega), if_pos (by omega), hrf, wrap_small (by have := hfr.1; omega)]
      rfl
    · refine Ev.bind (si_ev _ hf) ?_
      exact Ev.congr (fun k => if_pos rfl) (ih (i + 1) (by omega) (by omega))
theorem sg_l1 (g : Gr) (hn : Near g) : ∀ (d t : Nat), g.slots.length - t = d → t ≤ g.slots.length → Ev (fun k => middenlaw16_sameGraph.l1 k (t : Int) g.objs g.slots g.handles g.registry g.queue g.next g.objs g.slots g.handles g.registry g.queue g.next) true := by
  have h2 := hn.slots
  intro d
  induction d with
  | zero =>
    intro t hd hi
    refine Ev.step (f := fun _ => some true) (fun k => ?_) (Ev.now true)
    simp only [middenlaw16_sameGraph.l1]
    rw [if_neg (by omega)]
  | succ d ih =>
    intro t hd hi
    have h := sg_l2 g hn t (by omega) (ih (t + 1) (by omega) (by omega)) (g.slots.getD t []).length 0 (by omega) (by omega)
    refine Ev.step (fun k => ?_) h
    simp only [middenlaw16_sameGraph.l1]
    rw [if_pos (by omega), if_pos (by omega), if_pos (by omega), if_pos trivial]
    rfl
theorem sg_l0 (g : Gr) (hn : Near g) : ∀ (d i : Nat), g.objs.length - i = d → i ≤ g.objs.length → Ev (fun k => middenlaw16_sameGraph.l0 k (i : Int) g.objs g.slots g.handles g.registry g.queue g.next g.objs g.slots g.handles g.registry g.queue g.next) true := by
  have h2 := hn.objs
  intro d
  induction d with
  | zero =>
    intro t hd hi
    refine Ev.step (fun k => ?_) (sg_l1 g hn g.slots.length 0 (by omega) (by omega))
    simp only [middenlaw16_sameGraph.l0]
    rw [if_neg (by omega)]
    rfl
  | succ d ih =>
    intro i hd hi
    have hrd : rd_T62 g.objs (i : Int) = g.objs.getD i z62 := by simp [rd_T62]
    have ho := hn.obj _ (getD_mem (z := z62) (l := g.objs) (i := i) (by omega))
    refine Ev.step (f := fun k => (middenlaw16_sameObject.f k ((g.objs.getD i z62).f0) ((g.objs.getD i z62).f1) ((g.objs.getD i z62).f2) ((g.objs.getD i z62).f3) ((g.objs.getD i z62).f4) ((g.objs.getD i z62).f0) ((g.objs.getD i z62).f1) ((g.objs.getD i z62).f2) ((g.objs.getD i z62).f3) ((g.objs.getD i z62).f4)).bind fun t158 => (if t158 = true then (middenlaw16_sameGraph.l0 k ((i + 1 : Nat) : Int) g.objs g.slots g.handles g.registry g.queue g.next g.objs g.slots g.handles g.registry g.queue g.next) else (some false))) (fun k => ?_) ?_
    · simp only [middenlaw16_sameGraph.l0]
      rw [if_pos (by omega), if_pos (by omega), if_pos (by omega), hrd, wrap_small (by omega)]
      rfl
    · refine Ev.bind (so_ev _ _ _ _ _ ho.1 ho.2) ?_
      exact Ev.congr (fun k => if_pos rfl) (ih (i + 1) (by omega) (by omega))
theorem sg_ev (g : Gr) (hn : Near g) : Ev (fun k => middenlaw16_sameGraph.f k g.objs g.slots g.handles g.registry g.queue g.next g.objs g.slots g.handles g.registry g.queue g.next) true := by
  have hj : Ev (fun k => middenlaw16_sameGraph.j0 k (!true) g.objs g.slots g.handles g.registry g.queue g.next g.objs g.slots g.handles g.registry g.queue g.next) true := by
    refine Ev.step (fun k => ?_) (sg_l0 g hn g.objs.length 0 (by omega) (by omega))
    simp only [middenlaw16_sameGraph.j0]
    rw [if_neg (by simp)]
    rfl
  refine Ev.congr (f := fun k => (middenlaw16_sameInts.f k g.handles g.handles).bind fun t153 => (if t153 = true then ((middenlaw16_sameInts.f k g.registry g.registry).bind fun t154 => (if t154 = true then ((middenlaw16_sameInts.f k g.queue g.queue).bind fun t155 => (middenlaw16_sameGraph.j0 k (!t155) g.objs g.slots g.handles g.registry g.queue g.next g.objs g.slots g.handles g.registry g.queue g.next)) else (middenlaw16_sameGraph.j0 k true g.objs g.slots g.handles g.registry g.queue g.next g.objs g.slots g.handles g.registry g.queue g.next))) else (middenlaw16_sameGraph.j0 k true g.objs g.slots g.handles g.registry g.queue g.next g.objs g.slots g.handles g.registry g.queue g.next))) (fun k => ?_) ?_
  · unfold middenlaw16_sameGraph.f
    rw [if_pos rfl, if_pos rfl, if_pos rfl]
  · refine Ev.bind (si_ev _ hn.handles) (Ev.congr (fun k => if_pos rfl) ?_)
    refine Ev.bind (si_ev _ hn.registry) (Ev.congr (fun k => if_pos rfl) ?_)
    exact Ev.bind (si_ev _ hn.queue) hj

/-- sameGraph of a graph and what was read of it. -/
theorem sameG_any {L M : Lay} {g : Gr} (hn : Near g) {w : World} (h1 : Rd w L g) (h2 : Rd w M g) :
    Calls Tryd.prog 14 #[.agg (gcells L g).toArray, .agg (gcells M g).toArray] w fun e w' => e = .returned (.bool true) ∧ Below w.heap.size w w' := by
  obtain ⟨k, hk⟩ := (sg_ev g hn).rounds
  exact middenlaw16_sameGraph.calls k L.A0 L.c0 g.objs L.A1 L.c1 g.slots L.A2 L.c2 g.handles L.A3 L.c3 g.registry L.A4 L.c4 g.queue g.next M.A0 M.c0 g.objs M.A1 M.c1 g.slots M.A2 M.c2 g.handles M.A3 M.c3 g.registry M.A4 M.c4 g.queue g.next true w h1.r0 h1.h0 h1.r1 h1.h1 h1.r2 h1.h2 h1.r3 h1.h3 h1.r4 h1.h4 h2.r0 h2.h0 h2.r1 h2.h1 h2.r2 h2.h2 h2.r3 h2.h3 h2.r4 h2.h4 hk
end Go.Proofs.YtihjjkoddphmiaaDoor.img
