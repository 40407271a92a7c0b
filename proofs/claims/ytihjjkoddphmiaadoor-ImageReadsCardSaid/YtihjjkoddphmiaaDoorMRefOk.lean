/-
  The reference's Check is image.Check's answer.
-/
import Derived.Test.YtihjjkoddphmiaaDoorMRefKn
namespace Go.Proofs.YtihjjkoddphmiaaDoor.img
open Go.RowKit Go.Proofs.YtihjjkoddphmiaaDoorW.PrintWords Go.Proofs.YtihjjkoddphmiaaDoorW.PrintLast Go.Proofs.YtihjjkoddphmiaaDoorW.PrintMore Go.Proofs.YtihjjkoddphmiaaDoor.PImageRound
set_option linter.unusedVariables false
set_option linter.unusedSimpArgs false

theorem rcheck_ev (k p r s : Int) (hp : 0 ≤ p) (hr : 0 ≤ r) : Ev (fun n => middenref2_Check.f n 0 k p r 0 s false) (chk k p r s) := by
 refine ⟨4, fun n hn => ?_⟩
 obtain ⟨m, rfl⟩ : ∃ m, n = m + 4 := ⟨n - 4, by omega⟩
 have j3 : ∀ m b, middenref2_Check.j3 (m + 1) b 0 k p r 0 s false = if b = true then some 23 else if s < 0 then some 24 else if s > 255 then some 24 else some 0 := fun m b => by simp only [middenref2_Check.j3]
 have j2 : ∀ m b, middenref2_Check.j2 (m + 2) b 0 k p r 0 s false = if b = true then some 22 else if s < 0 then some 24 else if s > 255 then some 24 else some 0 := fun m b => by
  simp only [middenref2_Check.j2]
  cases b with
  | true => rw [if_pos rfl, if_pos rfl]
  | false => rw [if_neg (by decide), if_neg (by omega), j3, if_neg (by decide)]; simp
 have j1 : ∀ m b, middenref2_Check.j1 (m + 3) b 0 k p r 0 s false = if b = true then some 21 else if r > 65535 then some 22 else if s < 0 then some 24 else if s > 255 then some 24 else some 0 := fun m b => by
  simp only [middenref2_Check.j1]
  cases b with
  | true => rw [if_pos rfl, if_pos rfl]
  | false =>
   rw [if_neg (by decide), if_neg (by omega), j2]
   by_cases h : r > 65535 <;> simp [h]
 have j0 : ∀ m b, middenref2_Check.j0 (m + 4) b 0 k p r 0 s false = if b = true then some 20 else if p > 4095 then some 21 else if r > 65535 then some 22 else if s < 0 then some 24 else if s > 255 then some 24 else some 0 := fun m b => by
  simp only [middenref2_Check.j0]
  cases b with
  | true => rw [if_pos rfl, if_pos rfl]
  | false =>
   rw [if_neg (by decide), if_neg (by omega), j1]
   by_cases h : p > 4095 <;> simp [h]
 have tail : ∀ b : Bool, (b = true ↔ (k < 1 ∨ 5 ≤ k ∨ p < need k)) → (if b = true then some 20 else if p > 4095 then some 21 else if r > 65535 then some 22 else if s < 0 then some 24 else if s > 255 then some 24 else some 0) = some (chk k p r s) := by
  intro b hb
  unfold chk
  by_cases h : k < 1 ∨ 5 ≤ k ∨ p < need k
  ·rw [if_pos (hb.2 h), if_pos h]
  ·rw [if_neg (fun e => h (hb.1 e)), if_neg h]
   by_cases h1 : p > 4095
   ·rw [if_pos h1, if_pos h1]
   rw [if_neg h1, if_neg h1]
   by_cases h2 : r > 65535
   ·rw [if_pos h2, if_pos h2]
   rw [if_neg h2, if_neg h2]
   by_cases h3 : s < 0
   ·rw [if_pos h3, if_pos (.inl h3)]
   rw [if_neg h3]
   by_cases h4 : s > 255
   ·rw [if_pos h4, if_pos (.inr h4)]
   ·rw [if_neg h4, if_neg (by omega)]
 show middenref2_Check.f (m + 4) 0 k p r 0 s false = _
 unfold middenref2_Check.f
 unfold need at tail
 by_cases a1 : k < 1
 ·rw [if_pos a1, j0, tail _ (by simp [a1])]
 rw [if_neg a1]
 by_cases a2 : k > 4
 ·rw [if_pos a2, j0, tail _ (by simp; omega)]
 rw [if_neg a2]
 by_cases a3 : k = 2
 ·rw [if_pos a3]
  by_cases a4 : p < 1
  ·rw [if_pos a4, j0, tail _ (by simp [a3]; omega)]
  ·rw [if_neg a4, if_neg (by omega), j0, tail _ (by simp [a3]; omega)]
 ·rw [if_neg a3]
  by_cases a4 : k = 3
  ·rw [if_pos a4, j0, tail _ (by simp [a4])]
  ·rw [if_neg a4, j0, tail _ (by simp [a3, a4]; omega)]
theorem rpack_ev (k p r s : Int) (hp : 0 ≤ p) (hr : 0 ≤ r) : ∃ v, Ev (fun n => middenref2_Pack.f n 0 k p r 0 s false) (v, chk k p r s) := by
 obtain ⟨K, hK⟩ := rcheck_ev k p r s hp hr
 replace hK : ∀ n, K ≤ n → middenref2_Check.f n 0 k p r 0 s false = some (chk k p r s) := hK
 by_cases h : chk k p r s = 0
 ·rw [h] at hK ⊢
  refine ⟨?v, K, fun n hn => ?h⟩
  case h =>
   show (middenref2_Check.f n 0 k p r 0 s false).bind _ = _
   rw [hK n hn]
   simp only [Option.bind_some]
   rw [if_pos trivial, if_neg (by decide)]
 ·refine ⟨0, K, fun n hn => ?_⟩
  show (middenref2_Check.f n 0 k p r 0 s false).bind _ = _
  rw [hK n hn]
  simp only [Option.bind_some]
  rw [if_neg h]

theorem robjs_l {g : Gr} (hm : Mild g) (ho : ∀ o ∈ g.objs, o.f3.length ≤ 1000000 ∧ o.f4.length ≤ 1000000) : ∀ (d i : Nat) (last : Int), g.objs.length - i = d → i ≤ g.objs.length →
  Ev (fun k => middenref16_objects.l0 k last (i : Int) g.objs g.slots g.handles g.registry g.queue g.next) (objsFrom g.objs.length g.next last (g.objs.drop i)) := by
 have h2 := hm.objs
 intro d
 induction d with
 | zero =>
  intro i last hd hi
  have e : g.objs.drop i = [] := List.drop_eq_nil_of_le (by omega)
  rw [e]
  refine Ev.step (f := fun _ => some true) (fun k => ?_) (Ev.now true)
  simp only [middenref16_objects.l0]
  rw [if_neg (by omega)]
 | succ d ih =>
  intro i last hd hi
  have hlt : i < g.objs.length := by omega
  have hmem : g.objs.getD i z62 ∈ g.objs := get_mem hlt
  have hod := ho _ hmem
  have hrd : rd_T62 g.objs (i : Int) = g.objs.getD i z62 := by simp [rd_T62]
  have hn := ih (i + 1) (g.objs.getD i z62).f0 (by omega) (by omega)
  rw [drop_get g.objs i z62 hlt, objsFrom]
  generalize g.objs.getD i z62 = o at *
  obtain ⟨v, hv⟩ := rpack_ev o.f1 o.f3.length o.f4.length o.f2 (by omega) (by omega)
  refine Ev.step (f := fun k => (middenref2_Pack.f k 0 o.f1 (o.f3.length : Int) (o.f4.length : Int) 0 o.f2 false).bind fun bt195 => (if o.f0 ≤ last then (some false) else (if o.f0 ≥ g.next then (some false) else (if bt195.2 = 0 then ((middenref16_between.f k o.f3 0 (g.objs.length : Int)).bind fun t197 => (if t197 = true then (middenref16_objects.l0 k o.f0 ((i : Int) + 1) g.objs g.slots g.handles g.registry g.queue g.next) else (some false))) else (some false))))) (fun k => ?_) ?_
  ·simp only [middenref16_objects.l0]
   rw [if_pos (by omega), if_pos (by omega), hrd, wrap_small (by omega)]
  ·refine Ev.bind hv ?_
   by_cases t1 : o.f0 ≤ last
   ·rw [if_pos t1]
    exact Ev.congr (fun k => if_pos t1) (Ev.now false)
   by_cases t2 : g.next ≤ o.f0
   ·rw [if_neg t1, if_pos t2]
    exact Ev.congr (fun k => (if_neg t1).trans (if_pos t2)) (Ev.now false)
   rw [if_neg t1, if_neg t2]
   by_cases t3 : chk o.f1 o.f3.length o.f4.length o.f2 = 0
   ·rw [if_neg (by simpa using t3)]
    refine Ev.congr (fun k => (if_neg t1).trans ((if_neg t2).trans (if_pos t3))) (Ev.bind (rbetween_ev o.f3 0 g.objs.length hod.1) ?_)
    cases hb : numsB g.objs.length 0 o.f3 with
    | true => rw [if_pos rfl]; exact Ev.congr (fun k => if_pos rfl) hn
    | false => rw [if_neg (by decide)]; exact Ev.congr (fun k => if_neg (by decide)) (Ev.now false)
   ·rw [if_pos t3]
    exact Ev.congr (fun k => (if_neg t1).trans ((if_neg t2).trans (if_neg t3))) (Ev.now false)
theorem robjs_ev {g : Gr} (hm : Mild g) (ho : ∀ o ∈ g.objs, o.f3.length ≤ 1000000 ∧ o.f4.length ≤ 1000000) : Ev (fun k => middenref16_objects.f k g.objs g.slots g.handles g.registry g.queue g.next) (objsB g) := by
 have hl := robjs_l hm ho g.objs.length 0 0 (by omega) (by omega)
 unfold objsB
 by_cases h1 : g.next < 1
 ·rw [if_pos h1]
  refine Ev.congr (f := fun k => middenref16_objects.j0 k true g.objs g.slots g.handles g.registry g.queue g.next) (fun k => if_pos h1) ?_
  refine Ev.step (f := fun _ => some false) (fun k => ?_) (Ev.now false)
  simp only [middenref16_objects.j0]
  rfl
 rw [if_neg h1]
 by_cases h2 : 4611686018427387905 < g.next
 ·rw [if_pos h2]
  refine Ev.congr (f := fun k => middenref16_objects.j0 k true g.objs g.slots g.handles g.registry g.queue g.next) (fun k => (if_neg h1).trans (by rw [decide_eq_true (show g.next > 4611686018427387905 from h2)])) ?_
  refine Ev.step (f := fun _ => some false) (fun k => ?_) (Ev.now false)
  simp only [middenref16_objects.j0]
  rfl
 ·rw [if_neg h2]
  refine Ev.congr (f := fun k => middenref16_objects.j0 k false g.objs g.slots g.handles g.registry g.queue g.next) (fun k => (if_neg h1).trans (by rw [decide_eq_false (show ¬ g.next > 4611686018427387905 from h2)])) ?_
  refine Ev.step (fun k => ?_) hl
  simp only [middenref16_objects.j0]
  rfl
/-- All rules: in the reference's order they come to the same. -/
theorem ok_same (g : Gr) : (objsB g && (slotsOk g && ((numsB g.objs.length 1 g.queue && regB g) && knownB g))) = okB g := by
 unfold okB slotsOk holdB tailB
 cases objsB g
 ·rfl
 rw [Bool.true_and, if_pos rfl]
 by_cases h1 : g.slots.length < 1
 ·rw [if_pos h1, if_pos h1]; rfl
 rw [if_neg h1, if_neg h1]
 by_cases h2 : g.slots.length > 8
 ·rw [if_pos h2, if_pos h2]; rfl
 rw [if_neg h2, if_neg h2]
 by_cases h3 : g.handles.length > 1024
 ·rw [if_pos h3, if_pos h3]; rfl
 rw [if_neg h3, if_neg h3]
 cases numsB g.objs.length (-1) g.handles <;> cases slotsB g.objs.length g.slots <;> cases numsB g.objs.length 1 g.queue <;> cases regB g <;> cases knownB g <;> rfl
end Go.Proofs.YtihjjkoddphmiaaDoor.img
