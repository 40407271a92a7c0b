import Derived.Test.YtihjjkoddphmiaaGreatDoorNPImageApartx0
import Derived.Test.YtihjjkoddphmiaaGreatDoorNPImageApartx14
import Derived.Test.YtihjjkoddphmiaaGreatDoorNIm1
import Derived.Test.YtihjjkoddphmiaaGreatDoorRows
import Derived.WalkKit
import Derived.WalkLawsBesides
import Derived.WalkSpells
import Derived.Deep.QuietTactic
import Derived.BigQuiet
import Derived.Test.YtihjjkoddphmiaaGreatDoorNWWords
import Derived.StillTailTactics
namespace Go.Proofs.YtihjjkoddphmiaaGreatDoor.img
open Go.RowKit Go.Proofs.YtihjjkoddphmiaaGreatDoorW.PrintWords Go.Proofs.YtihjjkoddphmiaaGreatDoorW.PrintLast Go.Proofs.YtihjjkoddphmiaaGreatDoorW.PrintMore Go.Proofs.YtihjjkoddphmiaaGreatDoor.PImageApart
set_option linter.unusedVariables false
set_option linter.unusedSimpArgs false


/-- All are numbers of objects, or from least on. -/
def numsB (n least : Int) (l : List Int) : Bool := l.all fun x => decide (least ≤ x) && decide (x ≤ n)
theorem drop_get {α : Type} (l : List α) (i : Nat) (d : α) (h : i < l.length) : l.drop i = l.getD i d :: l.drop (i + 1) := by
 rw [List.drop_eq_getElem_cons h, List.getD_eq_getElem?_getD, List.getElem?_eq_getElem h]
 rfl
theorem nums_l (g : Gr) (least : Int) (l : List Int) (hl : l.length ≤ 1000000) : ∀ (d : Nat) (i : Nat), l.length - i = d → i ≤ l.length →
  Ev (fun k => image_numbers.l0 k least l (l.length : Int) (i : Int) g.objs g.slots g.handles g.registry g.queue g.next) (numsB g.objs.length least (l.drop i)) := by
 intro d
 induction d with
 | zero =>
  intro i hd hi
  have e : i = l.length := by omega
  subst e
  refine Ev.step (f := fun _ => some true) (fun k => ?_) (by simpa [numsB] using Ev.now true)
  simp only [image_numbers.l0]
  rw [if_neg (by omega)]
 | succ d ih =>
  intro i hd hi
  have hlt : i < l.length := by omega
  rw [drop_get l i 0 hlt]
  have hrd : rd l (i : Int) = l.getD i 0 := by simp [rd]
  by_cases h1 : l.getD i 0 < least
  ·refine Ev.step (f := fun _ => some false) (fun k => ?_) ?_
   ·simp only [image_numbers.l0]
    rw [if_pos (by omega), if_pos (by omega), if_pos (by omega), hrd, if_pos h1]
   ·have : numsB (g.objs.length : Int) least (l.getD i 0 :: l.drop (i + 1)) = false := by
     simp only [numsB, List.all_cons, Bool.and_eq_false_iff, decide_eq_false_iff_not]
     left; left; omega
    rw [this]
    exact Ev.now false
  by_cases h2 : l.getD i 0 > (g.objs.length : Int)
  ·refine Ev.step (f := fun _ => some false) (fun k => ?_) ?_
   ·simp only [image_numbers.l0]
    rw [if_pos (by omega), if_pos (by omega), if_pos (by omega), hrd, if_neg h1, if_pos h2]
   ·have : numsB (g.objs.length : Int) least (l.getD i 0 :: l.drop (i + 1)) = false := by
     simp only [numsB, List.all_cons, Bool.and_eq_false_iff, decide_eq_false_iff_not]
     left; right; omega
    rw [this]
    exact Ev.now false
  ·have := ih (i + 1) (by omega) (by omega)
   have he : numsB (g.objs.length : Int) least (l.getD i 0 :: l.drop (i + 1)) = numsB g.objs.length least (l.drop (i + 1)) := by
    simp only [numsB, List.all_cons]
    have e1 : decide (least ≤ l.getD i 0) = true := by simpa using Int.not_lt.1 h1
    have e2 : decide (l.getD i 0 ≤ (g.objs.length : Int)) = true := by simpa using Int.not_lt.1 h2
    rw [e1, e2]
    simp
   rw [he]
   refine Ev.step (fun k => ?_) this
   simp only [image_numbers.l0]
   rw [if_pos (by omega), if_pos (by omega), if_pos (by omega), hrd, if_neg h1, if_neg h2, wrap_small (by omega)]
   rfl
theorem nums_ev (g : Gr) (least : Int) (l : List Int) (hl : l.length ≤ 1000000) : Ev (fun k => image_numbers.f k g.objs g.slots g.handles g.registry g.queue g.next l least) (numsB g.objs.length least l) := by
 have := nums_l g least l hl l.length 0 (by omega) (by omega)
 simpa [image_numbers.f] using this

/-- The numbers of the Final objects, from i on. -/
def finalsFrom : Nat → List S66 → List Int
 | _, [] => []
 | i, o :: r => if o.f1 = 4 then ((i : Int) + 1) :: finalsFrom (i + 1) r else finalsFrom (i + 1) r
def finals (l : List S66) : List Int := finalsFrom 0 l
theorem finalsFrom_len : ∀ (l : List S66) (i : Nat), (finalsFrom i l).length ≤ l.length
 | [], _ => by simp [finalsFrom]
 | o :: r, i => by
  have := finalsFrom_len r (i + 1)
  unfold finalsFrom
  split <;> simp <;> omega
theorem registry_l (l : List S66) (hl : l.length ≤ 1000000) : ∀ (d : Nat) (i : Nat) (acc : List Int), l.length - i = d → i ≤ l.length → acc.length ≤ i →
  Ev (fun k => image_registry.l0 k acc l (l.length : Int) (i : Int)) (acc ++ finalsFrom i (l.drop i)) := by
 intro d
 induction d with
 | zero =>
  intro i acc hd hi ha
  have e : i = l.length := by omega
  subst e
  refine Ev.step (f := fun _ => some acc) (fun k => ?_) (by simpa [finalsFrom] using Ev.now acc)
  simp only [image_registry.l0]
  rw [if_neg (by omega)]
 | succ d ih =>
  intro i acc hd hi ha
  have hlt : i < l.length := by omega
  rw [drop_get l i z66 hlt]
  have hrd : rd_T66 l (i : Int) = l.getD i z66 := by simp [rd_T66]
  by_cases h : (l.getD i z66).f1 = 4
  ·have := ih (i + 1) (acc ++ [(i : Int) + 1]) (by omega) (by omega) (by simp; omega)
   have he : acc ++ finalsFrom i (l.getD i z66 :: l.drop (i + 1)) = (acc ++ [(i : Int) + 1]) ++ finalsFrom (i + 1) (l.drop (i + 1)) := by
    rw [finalsFrom, if_pos h]; simp
   rw [he]
   refine Ev.step (fun k => ?_) this
   simp only [image_registry.l0]
   rw [if_pos (by omega), if_pos (by omega), if_pos (by omega), hrd, if_pos h, if_pos (by omega), wrap_small (by omega)]
   rfl
  ·have := ih (i + 1) acc (by omega) (by omega) (by omega)
   have he : acc ++ finalsFrom i (l.getD i z66 :: l.drop (i + 1)) = acc ++ finalsFrom (i + 1) (l.drop (i + 1)) := by
    rw [finalsFrom, if_neg h]
   rw [he]
   refine Ev.step (fun k => ?_) this
   simp only [image_registry.l0]
   rw [if_pos (by omega), if_pos (by omega), if_pos (by omega), hrd, if_neg h, wrap_small (by omega)]
   rfl
theorem registry_ev (g : Gr) (hl : g.objs.length ≤ 1000000) : Ev (fun k => image_registry.f k g.objs g.slots g.handles g.registry g.queue g.next) (finals g.objs) := by
 have := registry_l g.objs hl g.objs.length 0 [] (by omega) (by omega) (by simp)
 simpa [image_registry.f, finals] using this
end Go.Proofs.YtihjjkoddphmiaaGreatDoor.img

namespace Go.Proofs.YtihjjkoddphmiaaGreatDoor.img
open Go.RowKit Go.Proofs.YtihjjkoddphmiaaGreatDoorW.PrintWords Go.Proofs.YtihjjkoddphmiaaGreatDoorW.PrintLast Go.Proofs.YtihjjkoddphmiaaGreatDoorW.PrintMore Go.Proofs.YtihjjkoddphmiaaGreatDoor.PImageApart
set_option linter.unusedVariables false
set_option linter.unusedSimpArgs false

/-- Nothing in the graph is longer than this. -/
structure Mild (g : Gr) : Prop where
 objs : g.objs.length ≤ 1000000
 slots : g.slots.length ≤ 1000000
 frames : ∀ fr ∈ g.slots, fr.length ≤ 1000000
 slot : ∀ fr ∈ g.slots, ∀ f ∈ fr, f.length ≤ 1000000
 handles : g.handles.length ≤ 1000000
 registry : g.registry.length ≤ 1000000
 queue : g.queue.length ≤ 1000000

def framesB (n : Int) : Int → List (List Int) → Bool
 | s, [] => decide (s ≤ 4096)
 | s, f :: r => if f.length < 1 then false else if numsB n 0 f then framesB n (s + f.length) r else false
def slotsB (n : Int) : List (List (List Int)) → Bool
 | [] => true
 | fr :: r => framesB n 0 fr && slotsB n r
def queueB (objs : List S66) : List Bool → List Int → Bool
 | _, [] => true
 | seen, n :: r => if seen.getD n.toNat false = true then false else if (objs.getD (n - 1).toNat z66).f1 = 4 then false else queueB objs (seen.set n.toNat true) r
def regB (g : Gr) : Bool := if (finals g.objs).length = g.registry.length then (decide (finals g.objs = g.registry) && queueB g.objs (List.replicate (g.objs.length + 1) false) g.queue) else false
def tailB (g : Gr) : Bool := if numsB g.objs.length (-1) g.handles then (if numsB g.objs.length 1 g.queue then regB g else false) else false
def holdB (g : Gr) : Bool := if g.slots.length < 1 then false else if g.slots.length > 8 then false else if g.handles.length > 1024 then false else slotsB g.objs.length g.slots && tailB g

theorem nums_get {n least : Int} {l : List Int} (h : numsB n least l = true) {x : Int} (hx : x ∈ l) : least ≤ x ∧ x ≤ n := by
 have := List.all_eq_true.1 h x hx
 simpa using this

theorem get_mem {α : Type} {l : List α} {i : Nat} {d : α} (h : i < l.length) : l.getD i d ∈ l := by
 rw [List.getD_eq_getElem?_getD, List.getElem?_eq_getElem h]
 exact List.getElem_mem h
end Go.Proofs.YtihjjkoddphmiaaGreatDoor.img

namespace Go.Proofs.YtihjjkoddphmiaaGreatDoor.img
open Go.RowKit Go.Proofs.YtihjjkoddphmiaaGreatDoorW.PrintWords
set_option linter.unusedVariables false
set_option linter.unusedSimpArgs false

/-- The two tables. -/
def Tabs (w : World) : Prop := (∀ (j : Nat) (x : Int), ([3, 1, 4, 8, 12, 16] : List Int)[j]? = some x → w.cell? ⟨0, j, none⟩ = some (.int .i64 x)) ∧ ∀ (j : Nat) (x : Int), ([-1, 0, 1, 2, 0] : List Int)[j]? = some x → w.cell? ⟨1, j, none⟩ = some (.int .i64 x)
theorem Tabs.below {w w1 : World} (h : Tabs w) (hb : Below w.heap.size w w1) : Tabs w1 := ⟨fun j x hx => pw_cell_below hb (h.1 j x hx), fun j x hx => pw_cell_below hb (h.2 j x hx)⟩
theorem Tabs.lt {w : World} (h : Tabs w) : 1 < w.heap.size := World.block_lt_of_cell? w ⟨1, 0, none⟩ (h.2 0 (-1) rfl)
def need (k : Int) : Int := if k = 2 then 1 else if k = 3 then 2 else 0
/-- The number of the error that check tells of a head without age. -/
def chk (k p r s : Int) : Int :=
 if k < 1 ∨ 5 ≤ k ∨ p < need k then 20 else if 4095 < p then 21 else if 65535 < r then 22 else if s < 0 ∨ 255 < s then 24 else 0

abbrev headV (k p r s : Int) : Value := .agg #[.int .u64 0, .int .i64 k, .int .i64 p, .int .i64 r, .int .i64 0, .int .i64 s, .bool false]

set_option maxHeartbeats 2000000 in
theorem check_neg (k p r s : Int) (hk : k < 0) (hp : 0 ≤ p) (hr : 0 ≤ r) (w : World) (ht : Tabs w) : Calls Tryz.prog 122 #[headV k p r s] w fun e w' => e = .returned (.int .i64 (chk k p r s)) ∧ Below w.heap.size w w' := by
 have hd : decide (k < 0) = true := by simpa using hk
 go_enter Tryz.func122, Tryz.ntmps122
 go_wp2
 go_quiet (fail)
 go_wp2
 all_goals
  go_ret
  refine ⟨congrArg (fun x => Ending.returned (Value.int .i64 x)) ?_, pw_below_drewN (below_alloc (Below.refl _ _) _) _⟩
  unfold chk need
  (repeat' split) <;> omega
set_option maxHeartbeats 2000000 in
theorem check_big (k p r s : Int) (hk : 5 ≤ k) (hp : 0 ≤ p) (hr : 0 ≤ r) (w : World) (ht : Tabs w) : Calls Tryz.prog 122 #[headV k p r s] w fun e w' => e = .returned (.int .i64 (chk k p r s)) ∧ Below w.heap.size w w' := by
 have hd : decide (k < 0) = false := by simp; omega
 have hd2 : decide (5 ≤ k) = true := by simpa using hk
 go_enter Tryz.func122, Tryz.ntmps122
 go_wp2
 go_quiet (fail)
 go_wp2
 all_goals
  go_ret
  refine ⟨congrArg (fun x => Ending.returned (Value.int .i64 x)) ?_, pw_below_drewN (below_alloc (Below.refl _ _) _) _⟩
  unfold chk need
  (repeat' split) <;> omega
set_option maxHeartbeats 2000000 in
theorem check_0 (p r s : Int)  (hp : 0 ≤ p) (hr : 0 ≤ r) (w : World) (ht : Tabs w) : Calls Tryz.prog 122 #[headV 0 p r s] w fun e w' => e = .returned (.int .i64 (chk 0 p r s)) ∧ Below w.heap.size w w' := by
 have hc : w.cell? ⟨1, 0, none⟩ = some (.int .i64 (-1)) := ht.2 0 _ rfl
 have hsz := ht.lt
 go_enter Tryz.func122, Tryz.ntmps122
 go_wp2
 go_quiet (fail)
 go_wp2
 all_goals
  go_ret
  refine ⟨congrArg (fun x => Ending.returned (Value.int .i64 x)) ?_, pw_below_drewN (below_alloc (Below.refl _ _) _) _⟩
  unfold chk need
  (repeat' split) <;> omega
set_option maxHeartbeats 2000000 in
theorem check_1 (p r s : Int)  (hp : 0 ≤ p) (hr : 0 ≤ r) (w : World) (ht : Tabs w) : Calls Tryz.prog 122 #[headV 1 p r s] w fun e w' => e = .returned (.int .i64 (chk 1 p r s)) ∧ Below w.heap.size w w' := by
 have hc : w.cell? ⟨1, 1, none⟩ = some (.int .i64 (0)) := ht.2 1 _ rfl
 have hsz := ht.lt
 go_enter Tryz.func122, Tryz.ntmps122
 go_wp2
 go_quiet (fail)
 go_wp2
 all_goals
  go_ret
  refine ⟨congrArg (fun x => Ending.returned (Value.int .i64 x)) ?_, pw_below_drewN (below_alloc (Below.refl _ _) _) _⟩
  unfold chk need
  (repeat' split) <;> omega
set_option maxHeartbeats 2000000 in
theorem check_4 (p r s : Int)  (hp : 0 ≤ p) (hr : 0 ≤ r) (w : World) (ht : Tabs w) : Calls Tryz.prog 122 #[headV 4 p r s] w fun e w' => e = .returned (.int .i64 (chk 4 p r s)) ∧ Below w.heap.size w w' := by
 have hc : w.cell? ⟨1, 4, none⟩ = some (.int .i64 (0)) := ht.2 4 _ rfl
 have hsz := ht.lt
 go_enter Tryz.func122, Tryz.ntmps122
 go_wp2
 go_quiet (fail)
 go_wp2
 all_goals
  go_ret
  refine ⟨congrArg (fun x => Ending.returned (Value.int .i64 x)) ?_, pw_below_drewN (below_alloc (Below.refl _ _) _) _⟩
  unfold chk need
  (repeat' split) <;> omega
set_option maxHeartbeats 2000000 in
theorem check_2_few (p r s : Int) (hf : p < 1) (hp : 0 ≤ p) (hr : 0 ≤ r) (w : World) (ht : Tabs w) : Calls Tryz.prog 122 #[headV 2 p r s] w fun e w' => e = .returned (.int .i64 (chk 2 p r s)) ∧ Below w.heap.size w w' := by
 have hc : w.cell? ⟨1, 2, none⟩ = some (.int .i64 (1)) := ht.2 2 _ rfl
 have hsz := ht.lt
 have hd : decide (p < 1) = true := by simpa using hf
 go_enter Tryz.func122, Tryz.ntmps122
 go_wp2
 go_quiet (fail)
 go_wp2
 all_goals
  go_ret
  refine ⟨congrArg (fun x => Ending.returned (Value.int .i64 x)) ?_, pw_below_drewN (below_alloc (Below.refl _ _) _) _⟩
  unfold chk need
  (repeat' split) <;> omega
set_option maxHeartbeats 2000000 in
theorem check_2_some (p r s : Int) (hf : 1 ≤ p) (hp : 0 ≤ p) (hr : 0 ≤ r) (w : World) (ht : Tabs w) : Calls Tryz.prog 122 #[headV 2 p r s] w fun e w' => e = .returned (.int .i64 (chk 2 p r s)) ∧ Below w.heap.size w w' := by
 have hc : w.cell? ⟨1, 2, none⟩ = some (.int .i64 (1)) := ht.2 2 _ rfl
 have hsz := ht.lt
 have hd : decide (p < 1) = false := by simp; omega
 go_enter Tryz.func122, Tryz.ntmps122
 go_wp2
 go_quiet (fail)
 go_wp2
 all_goals
  go_ret
  refine ⟨congrArg (fun x => Ending.returned (Value.int .i64 x)) ?_, pw_below_drewN (below_alloc (Below.refl _ _) _) _⟩
  unfold chk need
  (repeat' split) <;> omega
set_option maxHeartbeats 2000000 in
theorem check_3_few (p r s : Int) (hf : p < 2) (hp : 0 ≤ p) (hr : 0 ≤ r) (w : World) (ht : Tabs w) : Calls Tryz.prog 122 #[headV 3 p r s] w fun e w' => e = .returned (.int .i64 (chk 3 p r s)) ∧ Below w.heap.size w w' := by
 have hc : w.cell? ⟨1, 3, none⟩ = some (.int .i64 (2)) := ht.2 3 _ rfl
 have hsz := ht.lt
 have hd : decide (p < 2) = true := by simpa using hf
 go_enter Tryz.func122, Tryz.ntmps122
 go_wp2
 go_quiet (fail)
 go_wp2
 all_goals
  go_ret
  refine ⟨congrArg (fun x => Ending.returned (Value.int .i64 x)) ?_, pw_below_drewN (below_alloc (Below.refl _ _) _) _⟩
  unfold chk need
  (repeat' split) <;> omega
set_option maxHeartbeats 2000000 in
theorem check_3_some (p r s : Int) (hf : 2 ≤ p) (hp : 0 ≤ p) (hr : 0 ≤ r) (w : World) (ht : Tabs w) : Calls Tryz.prog 122 #[headV 3 p r s] w fun e w' => e = .returned (.int .i64 (chk 3 p r s)) ∧ Below w.heap.size w w' := by
 have hc : w.cell? ⟨1, 3, none⟩ = some (.int .i64 (2)) := ht.2 3 _ rfl
 have hsz := ht.lt
 have hd : decide (p < 2) = false := by simp; omega
 go_enter Tryz.func122, Tryz.ntmps122
 go_wp2
 go_quiet (fail)
 go_wp2
 all_goals
  go_ret
  refine ⟨congrArg (fun x => Ending.returned (Value.int .i64 x)) ?_, pw_below_drewN (below_alloc (Below.refl _ _) _) _⟩
  unfold chk need
  (repeat' split) <;> omega
theorem check_any (k p r s : Int) (hp : 0 ≤ p) (hr : 0 ≤ r) (w : World) (ht : Tabs w) : Calls Tryz.prog 122 #[headV k p r s] w fun e w' => e = .returned (.int .i64 (chk k p r s)) ∧ Below w.heap.size w w' := by
 by_cases h : k < 0
 ·exact check_neg k p r s h hp hr w ht
 by_cases h5 : 4 < k
 ·exact check_big k p r s (by omega) hp hr w ht
 obtain rfl | rfl | rfl | rfl | rfl : k = 0 ∨ k = 1 ∨ k = 2 ∨ k = 3 ∨ k = 4 := by omega
 ·exact check_0 p r s hp hr w ht
 ·exact check_1 p r s hp hr w ht
 ·by_cases hf : p < 1
  ·exact check_2_few p r s hf hp hr w ht
  ·exact check_2_some p r s (by omega) hp hr w ht
 ·by_cases hf : p < 2
  ·exact check_3_few p r s hf hp hr w ht
  ·exact check_3_some p r s (by omega) hp hr w ht
 ·exact check_4 p r s hp hr w ht
end Go.Proofs.YtihjjkoddphmiaaGreatDoor.img

namespace Go.Proofs.YtihjjkoddphmiaaGreatDoor.img
open Go.RowKit Go.Proofs.YtihjjkoddphmiaaGreatDoorW.PrintWords
set_option linter.unusedVariables false
set_option linter.unusedSimpArgs false

/-- Some word, and the error. -/
def PackPost (e : Int) (w : World) (en : Ending) (w' : World) : Prop := ∃ x : Int, en = .returned (.tuple #[.int .u64 x, .int .i64 e]) ∧ Below w.heap.size w w'

set_option maxHeartbeats 2000000 in
theorem pack_no (k p r s : Int) (hp : 0 ≤ p) (hr : 0 ≤ r) (w : World) (ht : Tabs w) (hc : chk k p r s ≠ 0) : Calls Tryz.prog 92 #[headV k p r s] w (PackPost (chk k p r s) w) := by
 have HT := Aside0.mk ht
 have HP := Aside0.mk hp
 have HR := Aside0.mk hr
 have HC : Aside0 (∀ wx, Tabs wx → Calls Tryz.prog 122 #[headV k p r s] wx fun e w' => e = .returned (.int .i64 (chk k p r s)) ∧ Below wx.heap.size wx w') := ⟨fun wx h => check_any k p r s hp hr wx h⟩
 generalize chk k p r s = e at hc HC ⊢
 have hb : (e != 0) = true := by simpa using hc
 clear ht hp hr hc
 go_enter Tryz.func92, Tryz.ntmps92
 go_wp2_with (go_at_call 122; refine (HC.out _ (HT.out.below (below_alloc (Below.refl _ _) _))).mono ?_; rintro en w1 ⟨rfl, hbl⟩; have HB := Aside0.mk (below_step (below_alloc (Below.refl w.heap.size w) _) hbl); clear hbl)
 go_ret2
 exact ⟨0, rfl, HB.out⟩

set_option maxHeartbeats 4000000 in
theorem pack_yes (k p r s : Int) (hp : 0 ≤ p) (hr : 0 ≤ r) (w : World) (ht : Tabs w) (hc : chk k p r s = 0) : Calls Tryz.prog 92 #[headV k p r s] w (PackPost 0 w) := by
 have HT := Aside0.mk ht
 have HC : Aside0 (∀ wx, Tabs wx → Calls Tryz.prog 122 #[headV k p r s] wx fun e w' => e = .returned (.int .i64 0) ∧ Below wx.heap.size wx w') := ⟨fun wx h => by rw [← hc]; exact check_any k p r s hp hr wx h⟩
 clear ht hp hr hc
 go_enter Tryz.func92, Tryz.ntmps92
 go_wp2_with (go_at_call 122; refine (HC.out _ (HT.out.below (below_alloc (Below.refl _ _) _))).mono ?_; rintro en w1 ⟨rfl, hbl⟩; have HB := Aside0.mk (below_step (below_alloc (Below.refl w.heap.size w) _) hbl); have HK := Aside0.mk (blk_below (g := w.heap.size) (o := .cells #[.int .u64 0, .int .i64 k, .int .i64 p, .int .i64 r, .int .i64 0, .int .i64 s, .bool false] 144 (0, 0)) (heap_alloc_new w _) hbl); have HT1 := Aside0.mk (HT.out.below HB.out); have hsz : w.heap.size < w1.heap.size := blk_lt HK.out; have hk0 : w1.cell? ⟨w.heap.size, 0, none⟩ = some (.int .u64 0) := (blk_cell HK.out 0).trans rfl; have hk1 : w1.cell? ⟨w.heap.size, 1, none⟩ = some (.int .i64 k) := (blk_cell HK.out 1).trans rfl; have hk2 : w1.cell? ⟨w.heap.size, 2, none⟩ = some (.int .i64 p) := (blk_cell HK.out 2).trans rfl; have hk3 : w1.cell? ⟨w.heap.size, 3, none⟩ = some (.int .i64 r) := (blk_cell HK.out 3).trans rfl; have hk4 : w1.cell? ⟨w.heap.size, 4, none⟩ = some (.int .i64 0) := (blk_cell HK.out 4).trans rfl; have hk5 : w1.cell? ⟨w.heap.size, 5, none⟩ = some (.int .i64 s) := (blk_cell HK.out 5).trans rfl; have hk6 : w1.cell? ⟨w.heap.size, 6, none⟩ = some (.bool false) := (blk_cell HK.out 6).trans rfl; clear hbl)
 go_loop [6, 7, 30] (fun u v c => ∃ (i a x : Int), Aside0 ((i = 0 ∧ a = 2) ∨ (i = 1 ∧ a = 5) ∨ (i = 2 ∧ a = 6) ∨ (i = 3 ∧ a = 10) ∨ (i = 4 ∧ a = 18) ∨ (i = 5 ∧ a = 30) ∨ (i = 6 ∧ a = 46)) ∧ u = .int .u64 x ∧ v = .int .i64 a ∧ c = .int .i64 i) (fun _ _ c => (6 - intOf c).toNat)
 case atStart => exact ⟨0, 2, 1, ⟨.inl ⟨rfl, rfl⟩⟩, rfl, rfl, rfl⟩
 case round =>
  obtain ⟨i, a, x, HN, rfl, rfl, rfl⟩ := hrel
  clear hk0 hk1 hk2 hk3 hk4 hk5 hk6
  have hz0 : 0 < w1.heap.size := by omega
  rcases HN.out with ⟨rfl, rfl⟩ | ⟨rfl, rfl⟩ | ⟨rfl, rfl⟩ | ⟨rfl, rfl⟩ | ⟨rfl, rfl⟩ | ⟨rfl, rfl⟩ | ⟨rfl, rfl⟩ <;> clear HN
  ·have ht : w1.cell? ⟨0, 0, none⟩ = some (.int .i64 3) := HT1.out.1 0 _ rfl
   have hi : ∀ w : World, (Instr.index 159 (Value.agg #[Value.int .i64 k, Value.int .i64 0, Value.int .i64 0, Value.int .i64 s, Value.int .i64 p, Value.int .i64 r]) (Value.int .i64 0)).run Tryz.prog w = Result.ok (Value.int .i64 k) w := fun _ => by kernel_rfl
   go_wp2
   go_round
   case rel => exact ⟨1, 5, _, ⟨.inr (.inl ⟨rfl, rfl⟩)⟩, rfl, rfl, rfl⟩
   case measure => simp [intOf]
  ·have ht : w1.cell? ⟨0, 1, none⟩ = some (.int .i64 1) := HT1.out.1 1 _ rfl
   have hi : ∀ w : World, (Instr.index 159 (Value.agg #[Value.int .i64 k, Value.int .i64 0, Value.int .i64 0, Value.int .i64 s, Value.int .i64 p, Value.int .i64 r]) (Value.int .i64 1)).run Tryz.prog w = Result.ok (Value.int .i64 0) w := fun _ => by kernel_rfl
   go_wp2
   go_round
   case rel => exact ⟨2, 6, _, ⟨.inr (.inr (.inl ⟨rfl, rfl⟩))⟩, rfl, rfl, rfl⟩
   case measure => simp [intOf]
  ·have ht : w1.cell? ⟨0, 2, none⟩ = some (.int .i64 4) := HT1.out.1 2 _ rfl
   have hi : ∀ w : World, (Instr.index 159 (Value.agg #[Value.int .i64 k, Value.int .i64 0, Value.int .i64 0, Value.int .i64 s, Value.int .i64 p, Value.int .i64 r]) (Value.int .i64 2)).run Tryz.prog w = Result.ok (Value.int .i64 0) w := fun _ => by kernel_rfl
   go_wp2
   go_round
   case rel => exact ⟨3, 10, _, ⟨.inr (.inr (.inr (.inl ⟨rfl, rfl⟩)))⟩, rfl, rfl, rfl⟩
   case measure => simp [intOf]
  ·have ht : w1.cell? ⟨0, 3, none⟩ = some (.int .i64 8) := HT1.out.1 3 _ rfl
   have hi : ∀ w : World, (Instr.index 159 (Value.agg #[Value.int .i64 k, Value.int .i64 0, Value.int .i64 0, Value.int .i64 s, Value.int .i64 p, Value.int .i64 r]) (Value.int .i64 3)).run Tryz.prog w = Result.ok (Value.int .i64 s) w := fun _ => by kernel_rfl
   go_wp2
   go_round
   case rel => exact ⟨4, 18, _, ⟨.inr (.inr (.inr (.inr (.inl ⟨rfl, rfl⟩))))⟩, rfl, rfl, rfl⟩
   case measure => simp [intOf]
  ·have ht : w1.cell? ⟨0, 4, none⟩ = some (.int .i64 12) := HT1.out.1 4 _ rfl
   have hi : ∀ w : World, (Instr.index 159 (Value.agg #[Value.int .i64 k, Value.int .i64 0, Value.int .i64 0, Value.int .i64 s, Value.int .i64 p, Value.int .i64 r]) (Value.int .i64 4)).run Tryz.prog w = Result.ok (Value.int .i64 p) w := fun _ => by kernel_rfl
   go_wp2
   go_round
   case rel => exact ⟨5, 30, _, ⟨.inr (.inr (.inr (.inr (.inr (.inl ⟨rfl, rfl⟩)))))⟩, rfl, rfl, rfl⟩
   case measure => simp [intOf]
  ·have ht : w1.cell? ⟨0, 5, none⟩ = some (.int .i64 16) := HT1.out.1 5 _ rfl
   have hi : ∀ w : World, (Instr.index 159 (Value.agg #[Value.int .i64 k, Value.int .i64 0, Value.int .i64 0, Value.int .i64 s, Value.int .i64 p, Value.int .i64 r]) (Value.int .i64 5)).run Tryz.prog w = Result.ok (Value.int .i64 r) w := fun _ => by kernel_rfl
   go_wp2
   go_round
   case rel => exact ⟨6, 46, _, ⟨.inr (.inr (.inr (.inr (.inr (.inr (⟨rfl, rfl⟩))))))⟩, rfl, rfl, rfl⟩
   case measure => simp [intOf]
  ·go_wp2
   go_ret2
   exact ⟨_, rfl, below_alloc HB.out _⟩
end Go.Proofs.YtihjjkoddphmiaaGreatDoor.img

namespace Go.Proofs.YtihjjkoddphmiaaGreatDoor.img
open Go.RowKit Go.Proofs.YtihjjkoddphmiaaGreatDoorW.PrintWords Go.Proofs.YtihjjkoddphmiaaGreatDoorW.PrintLast Go.Proofs.YtihjjkoddphmiaaGreatDoorW.PrintMore Go.Proofs.YtihjjkoddphmiaaGreatDoor.PImageApart
set_option linter.unusedVariables false
set_option linter.unusedSimpArgs false

/-- Where a graph's lists lie. -/
structure Lay where
 A0 : Option Addr
 A1 : Option Addr
 A2 : Option Addr
 A3 : Option Addr
 A4 : Option Addr
 c0 : Nat
 c1 : Nat
 c2 : Nat
 c3 : Nat
 c4 : Nat
abbrev gcells (L : Lay) (g : Gr) : List Value := [.slice L.A0 g.objs.length L.c0, .slice L.A1 g.slots.length L.c1, .slice L.A2 g.handles.length L.c2, .slice L.A3 g.registry.length L.c3, .slice L.A4 g.queue.length L.c4, .int .u64 g.next]
/-- A graph reads so. -/
structure Rd (w : World) (L : Lay) (g : Gr) : Prop where
 r0 : Kd.C k66 w L.A0 g.objs.length g.objs
 r1 : Kd.C (Kd.slice 25 (Kd.slice 3 (Kd.int .i64))) w L.A1 g.slots.length g.slots
 r2 : Kd.C (Kd.int .i64) w L.A2 g.handles.length g.handles
 r3 : Kd.C (Kd.int .i64) w L.A3 g.registry.length g.registry
 r4 : Kd.C (Kd.int .i64) w L.A4 g.queue.length g.queue
 h0 : g.objs.length ≤ L.c0
 h1 : g.slots.length ≤ L.c1
 h2 : g.handles.length ≤ L.c2
 h3 : g.registry.length ≤ L.c3
 h4 : g.queue.length ≤ L.c4
theorem Rd.below {w w1 : World} {L : Lay} {g : Gr} (h : Rd w L g) (hb : Below w.heap.size w w1) : Rd w1 L g :=
 ⟨Kd.C_below h.r0 hb, Kd.C_below h.r1 hb, Kd.C_below h.r2 hb, Kd.C_below h.r3 hb, Kd.C_below h.r4 hb, h.h0, h.h1, h.h2, h.h3, h.h4⟩

theorem nums_any (L : Lay) (g : Gr) (hm : Mild g) (A : Option Addr) (c : Nat) (l : List Int) (least : Int) (w : World) (hR : Rd w L g) (hl : l.length ≤ 1000000) (hr : Kd.C (Kd.int .i64) w A l.length l) (hc : l.length ≤ c) :
  Calls Tryz.prog 93 #[.agg (gcells L g).toArray, .slice A l.length c, .int .i64 least] w fun e w' => e = .returned (.bool (numsB g.objs.length least l)) ∧ Below w.heap.size w w' := by
 obtain ⟨k, hk⟩ := (nums_ev g least l hl).rounds
 exact image_numbers.calls k _ _ _ _ _ _ _ _ _ _ _ _ _ _ _ _ A c l least _ w hR.r0 hR.h0 hR.r1 hR.h1 hR.r2 hR.h2 hR.r3 hR.h3 hR.r4 hR.h4 hr hc hk
def objsFrom (n next : Int) : Int → List S66 → Bool
 | _, [] => true
 | last, o :: r => if o.f0 ≤ last then false else if next ≤ o.f0 then false else if chk o.f1 o.f3.length o.f4.length o.f2 ≠ 0 then false else if numsB n 0 o.f3 = true then objsFrom n next o.f0 r else false
def objsB (g : Gr) : Bool := if g.next < 1 then false else if 4611686018427387905 < g.next then false else objsFrom g.objs.length g.next 0 g.objs

theorem pack_any (k p r s : Int) (hp : 0 ≤ p) (hr : 0 ≤ r) (w : World) (ht : Tabs w) : Calls Tryz.prog 92 #[headV k p r s] w (PackPost (chk k p r s) w) := by
 by_cases h : chk k p r s = 0
 ·rw [h]; exact pack_yes k p r s hp hr w ht h
 ·exact pack_no k p r s hp hr w ht h

set_option maxHeartbeats 4000000 in
set_option maxRecDepth 100000 in
theorem objects_low (A0 A1 A2 A3 A4 : Option Addr) (k0 k1 k2 k3 k4 : Nat) (objs : List S66) (slots : List (List (List Int))) (handles registry queue : List Int) (next : Int) (w : World) (hn : next < 1 ∨ 4611686018427387905 < next) :
  Calls Tryz.prog 70 #[.agg ([.slice A0 objs.length k0, .slice A1 slots.length k1, .slice A2 handles.length k2, .slice A3 registry.length k3, .slice A4 queue.length k4, .int .u64 next] : List Value).toArray] w fun e w' => e = .returned (.bool false) ∧ Below w.heap.size w w' := by
 rcases hn with hn | hn
 ·go_enter Tryz.func70, Tryz.ntmps70
  go_wp2
  go_ret
  exact ⟨rfl, below_alloc (Below.refl _ _) _⟩
 ·have hn2 : ¬ next < 1 := by omega
  go_enter Tryz.func70, Tryz.ntmps70
  go_wp2
  go_ret
  exact ⟨rfl, below_alloc (Below.refl _ _) _⟩

set_option maxHeartbeats 4000000 in
set_option maxRecDepth 100000 in
theorem objects_nil (A0 A1 A2 A3 A4 : Option Addr) (k0 k1 k2 k3 k4 : Nat) (slots : List (List (List Int))) (handles registry queue : List Int) (next : Int) (w : World) (h1 : ¬ next < 1) (h2 : ¬ 4611686018427387905 < next) :
  Calls Tryz.prog 70 #[.agg ([.slice A0 0 k0, .slice A1 slots.length k1, .slice A2 handles.length k2, .slice A3 registry.length k3, .slice A4 queue.length k4, .int .u64 next] : List Value).toArray] w fun e w' => e = .returned (.bool true) ∧ Below w.heap.size w w' := by
 go_enter Tryz.func70, Tryz.ntmps70
 go_wp2
 refine wp_loop_rounds 1 ?_
 rw [rounds_succ]
 go_wp2
 go_ret
 exact ⟨rfl, below_alloc (Below.refl _ _) _⟩

set_option maxHeartbeats 8000000 in
set_option maxRecDepth 100000 in
theorem objects_some (ad : Addr) (A1 A2 A3 A4 : Option Addr) (k0 k1 k2 k3 k4 : Nat) (objs : List S66) (slots : List (List (List Int))) (handles registry queue : List Int) (next : Int) (w : World) (h1 : ¬ next < 1) (h2 : ¬ 4611686018427387905 < next) (hm : Mild ⟨objs, slots, handles, registry, queue, next⟩) (ho : ∀ o ∈ objs, o.f3.length ≤ 1000000 ∧ o.f4.length ≤ 1000000) (hR : Rd w ⟨some ad, A1, A2, A3, A4, k0, k1, k2, k3, k4⟩ ⟨objs, slots, handles, registry, queue, next⟩) (ht : Tabs w) :
  Calls Tryz.prog 70 #[.agg ([.slice (some ad) objs.length k0, .slice A1 slots.length k1, .slice A2 handles.length k2, .slice A3 registry.length k3, .slice A4 queue.length k4, .int .u64 next] : List Value).toArray] w fun e w' => e = .returned (.bool (objsFrom objs.length next 0 objs)) ∧ Below w.heap.size w w' := by
 have HT := Aside0.mk ht
 have HR := Aside0.mk hR
 have HM := Aside0.mk hm
 have HO := Aside0.mk ho
 have hlen : objs.length ≤ 1000000 := hm.objs
 obtain ⟨res, hres⟩ : ∃ res, res = objsFrom objs.length next 0 objs := ⟨_, rfl⟩
 rw [← hres]
 have HRES := Aside0.mk hres
 clear ht hR hm ho hres
 go_enter Tryz.func70, Tryz.ntmps70
 go_wp2
 have HK : Aside0 ((w.alloc (.cells ([.slice (some ad) objs.length k0, .slice A1 slots.length k1, .slice A2 handles.length k2, .slice A3 registry.length k3, .slice A4 queue.length k4, .int .u64 next] : List Value).toArray 44)).heap[w.heap.size]? = some (.cells ([.slice (some ad) objs.length k0, .slice A1 slots.length k1, .slice A2 handles.length k2, .slice A3 registry.length k3, .slice A4 queue.length k4, .int .u64 next] : List Value).toArray 44 (0, 0))) := ⟨heap_alloc_new w _⟩
 have HB : Aside0 (Below w.heap.size w (w.alloc (.cells ([.slice (some ad) objs.length k0, .slice A1 slots.length k1, .slice A2 handles.length k2, .slice A3 registry.length k3, .slice A4 queue.length k4, .int .u64 next] : List Value).toArray 44))) := ⟨below_alloc (Below.refl _ _) _⟩
 go_loopw [3, 19] (fun a c wr => ∃ (k : Nat) (last : Int), k ≤ objs.length ∧ a = .int .u64 last ∧ c = .int .i64 k ∧ Aside0 (res = objsFrom objs.length next last (objs.drop k)) ∧ Aside0 (wr.heap[w.heap.size]? = some (.cells ([.slice (some ad) objs.length k0, .slice A1 slots.length k1, .slice A2 handles.length k2, .slice A3 registry.length k3, .slice A4 queue.length k4, .int .u64 next] : List Value).toArray 44 (0, 0))) ∧ Aside0 (Below w.heap.size w wr)) (fun _ c _ => objs.length - (intOf c).toNat)
 case atStart => exact ⟨0, 0, Nat.zero_le _, rfl, rfl, HRES, HK, HB⟩
 case round =>
  clear HK HB HRES
  obtain ⟨k, last, hk, rfl, rfl, HRES, HK, HB⟩ := hrel
  by_cases hlt : k < objs.length
  ·have hel := at_T66 (Kd.C_below HR.out.r0 HB.out) (k : Int) (by omega) (by show (k : Int) < (objs.length : Int); omega)
   obtain ⟨ad', B3, b3, B4, b4, e0, q0, q1, q2, q3, q4, l3, C3, l4, C4⟩ := hel
   obtain rfl : ad = ad' := by injection e0
   have hmem : objs.getD k z66 ∈ objs := get_mem hlt
   have hod := HO.out _ hmem
   have HD : Aside0 (objs.drop k = objs.getD k z66 :: objs.drop (k + 1)) := ⟨drop_get objs k z66 hlt⟩
   have hrd : rd_T66 objs (k : Int) = objs.getD k z66 := by simp [rd_T66]
   rw [hrd] at q0 q1 q2 q3 q4 l3 C3 l4 C4
   clear hrd hmem e0
   generalize objs.getD k z66 = o at *
   simp only [Int.toNat_natCast] at q0 q1 q2 q3 q4
   have HC3 := Aside0.mk C3
   have HL3 := Aside0.mk l3
   clear C3 C4 l3 l4
   have hbx : w.heap.size < wr.heap.size := blk_lt HK.out
   have hkn : wr.cell? ⟨w.heap.size, 5, none⟩ = some (.int .u64 next) := (blk_cell HK.out 5).trans rfl
   rw [HD.out, objsFrom] at HRES
   clear HD
   by_cases t1 : o.f0 ≤ last
   ·rw [if_pos t1] at HRES
    obtain rfl := HRES.out
    go_wp2
    go_ret
    exact ⟨rfl, below_alloc HB.out _⟩
   by_cases t2 : next ≤ o.f0
   ·rw [if_neg t1, if_pos t2] at HRES
    obtain rfl := HRES.out
    go_wp2
    go_ret
    exact ⟨rfl, below_alloc HB.out _⟩
   rw [if_neg t1, if_neg t2] at HRES
   obtain ⟨e, he⟩ : ∃ e, e = chk o.f1 o.f3.length o.f4.length o.f2 := ⟨_, rfl⟩
   have HPK : Aside0 (∀ wx, Tabs wx → Calls Tryz.prog 92 #[headV o.f1 o.f3.length o.f4.length o.f2] wx (PackPost e wx)) := ⟨fun wx h => by rw [he]; exact pack_any _ _ _ _ (by omega) (by omega) wx h⟩
   rw [← he] at HRES
   clear he
   by_cases t3 : e = 0
   ·rw [if_neg (by simpa using t3)] at HRES
    subst t3
    obtain ⟨bn, hbn⟩ : ∃ bn, bn = numsB objs.length 0 o.f3 := ⟨_, rfl⟩
    have HNM : Aside0 (∀ wx, Rd wx ⟨some ad, A1, A2, A3, A4, k0, k1, k2, k3, k4⟩ ⟨objs, slots, handles, registry, queue, next⟩ → Kd.C (Kd.int .i64) wx B3 o.f3.length o.f3 → Calls Tryz.prog 93 #[.agg ([.slice (some ad) objs.length k0, .slice A1 slots.length k1, .slice A2 handles.length k2, .slice A3 registry.length k3, .slice A4 queue.length k4, .int .u64 next] : List Value).toArray, .slice B3 o.f3.length b3, .int .i64 0] wx fun e w' => e = .returned (.bool bn) ∧ Below wx.heap.size wx w') :=
     ⟨fun wx h hC => by rw [hbn]; exact nums_any ⟨some ad, A1, A2, A3, A4, k0, k1, k2, k3, k4⟩ ⟨objs, slots, handles, registry, queue, next⟩ HM.out B3 b3 o.f3 0 wx h hod.1 hC HL3.out⟩
    rw [← hbn] at HRES
    clear hbn
    cases bn
    ·obtain rfl : res = false := by simpa using HRES.out
     go_wp2_with (first | (go_at_call 92; refine (HPK.out _ (HT.out.below (below_alloc HB.out _))).mono ?_; rintro en w2 ⟨x, rfl, hb2⟩; have HB2 := Aside0.mk (below_step (below_alloc HB.out _) hb2); have HK2 := Aside0.mk (blk_below (blk_alloc HK.out _) hb2); have HX2 := Aside0.mk (blk_below (g := wr.heap.size) (o := .cells #[.int .u64 o.f0, .int .i64 o.f1, .int .i64 o.f2, .slice B3 o.f3.length b3, .slice B4 o.f4.length b4] 66 (0, 0)) (heap_alloc_new wr _) hb2); have hx3 : w2.cell? ⟨wr.heap.size, 3, none⟩ = some (.slice B3 o.f3.length b3) := (blk_cell HX2.out 3).trans rfl; have HB23 := Aside0.mk hb2; clear hb2) | (refine wpList_load_row rfl 44 _ rfl w.heap.size rfl 44 _ _ _ HK2.out Tryz.underlying44 rfl (by kernel_rfl) ?_) | (go_at_call 93; refine (HNM.out _ (HR.out.below HB2.out) (Kd.C_below (Kd.C_alloc HC3.out _) HB23.out)).mono ?_; rintro en w3 ⟨rfl, hb3⟩; have HB3 := Aside0.mk (below_step HB2.out hb3); have HK3 := Aside0.mk (blk_below HK2.out hb3); clear hb3))
     go_ret
     exact ⟨rfl, HB3.out⟩
    ·rw [if_pos rfl] at HRES
     go_wp2_with (first | (go_at_call 92; refine (HPK.out _ (HT.out.below (below_alloc HB.out _))).mono ?_; rintro en w2 ⟨x, rfl, hb2⟩; have HB2 := Aside0.mk (below_step (below_alloc HB.out _) hb2); have HK2 := Aside0.mk (blk_below (blk_alloc HK.out _) hb2); have HX2 := Aside0.mk (blk_below (g := wr.heap.size) (o := .cells #[.int .u64 o.f0, .int .i64 o.f1, .int .i64 o.f2, .slice B3 o.f3.length b3, .slice B4 o.f4.length b4] 66 (0, 0)) (heap_alloc_new wr _) hb2); have hx3 : w2.cell? ⟨wr.heap.size, 3, none⟩ = some (.slice B3 o.f3.length b3) := (blk_cell HX2.out 3).trans rfl; have HB23 := Aside0.mk hb2; clear hb2) | (refine wpList_load_row rfl 44 _ rfl w.heap.size rfl 44 _ _ _ HK2.out Tryz.underlying44 rfl (by kernel_rfl) ?_) | (go_at_call 93; refine (HNM.out _ (HR.out.below HB2.out) (Kd.C_below (Kd.C_alloc HC3.out _) HB23.out)).mono ?_; rintro en w3 ⟨rfl, hb3⟩; have HB3 := Aside0.mk (below_step HB2.out hb3); have HK3 := Aside0.mk (blk_below HK2.out hb3); clear hb3))
     go_roundw
     case rel => exact ⟨k + 1, o.f0, by omega, rfl, by go_num, HRES, HK3, HB3⟩
     case measure => simp [intOf]; omega
   ·rw [if_pos t3] at HRES
    obtain rfl := HRES.out
    have hb : (e != 0) = true := by simpa using t3
    clear t3
    go_wp2_with (go_at_call 92; refine (HPK.out _ (HT.out.below (below_alloc HB.out _))).mono ?_; rintro en w2 ⟨x, rfl, hb2⟩; have HB2 := Aside0.mk (below_step (below_alloc HB.out _) hb2); have HK2 := Aside0.mk (blk_below (blk_alloc HK.out _) hb2); have HX2 := Aside0.mk (blk_below (g := wr.heap.size) (o := .cells #[.int .u64 o.f0, .int .i64 o.f1, .int .i64 o.f2, .slice B3 o.f3.length b3, .slice B4 o.f4.length b4] 66 (0, 0)) (heap_alloc_new wr _) hb2); have hx3 : w2.cell? ⟨wr.heap.size, 3, none⟩ = some (.slice B3 o.f3.length b3) := (blk_cell HX2.out 3).trans rfl; have HB23 := Aside0.mk hb2; clear hb2)
    go_ret
    exact ⟨rfl, HB2.out⟩
  ·go_wp2
   go_ret
   have : objs.drop k = [] := List.drop_eq_nil_of_le (by omega)
   rw [this] at HRES
   exact ⟨by rw [HRES.out]; rfl, HB.out⟩

theorem objects_any (L : Lay) (g : Gr) (hm : Mild g) (ho : ∀ o ∈ g.objs, o.f3.length ≤ 1000000 ∧ o.f4.length ≤ 1000000) (w : World) (hR : Rd w L g) (ht : Tabs w) :
  Calls Tryz.prog 70 #[.agg (gcells L g).toArray] w fun e w' => e = .returned (.bool (objsB g)) ∧ Below w.heap.size w w' := by
 obtain ⟨A0, A1, A2, A3, A4, k0, k1, k2, k3, k4⟩ := L
 obtain ⟨objs, slots, handles, registry, queue, next⟩ := g
 by_cases h1 : next < 1
 ·have hb : objsB ⟨objs, slots, handles, registry, queue, next⟩ = false := by rw [objsB, if_pos h1]
  rw [hb]
  exact objects_low A0 A1 A2 A3 A4 k0 k1 k2 k3 k4 objs slots handles registry queue next w (.inl h1)
 by_cases h2 : 4611686018427387905 < next
 ·have hb : objsB ⟨objs, slots, handles, registry, queue, next⟩ = false := by rw [objsB, if_neg h1, if_pos h2]
  rw [hb]
  exact objects_low A0 A1 A2 A3 A4 k0 k1 k2 k3 k4 objs slots handles registry queue next w (.inr h2)
 have hb : objsB ⟨objs, slots, handles, registry, queue, next⟩ = objsFrom objs.length next 0 objs := by rw [objsB, if_neg h1, if_neg h2]
 rw [hb]
 rcases List.eq_nil_or_concat objs with rfl | ⟨q, z, rfl⟩
 ·exact objects_nil A0 A1 A2 A3 A4 k0 k1 k2 k3 k4 slots handles registry queue next w h1 h2
 ·obtain ⟨ad, c, hA, -⟩ := Kd.C_get hR.r0 z66 0 (by omega) (by simp)
  simp only at hA
  subst hA
  exact objects_some ad A1 A2 A3 A4 k0 k1 k2 k3 k4 _ slots handles registry queue next w h1 h2 hm ho hR ht
end Go.Proofs.YtihjjkoddphmiaaGreatDoor.img

namespace Go.Proofs.YtihjjkoddphmiaaGreatDoor.img
open Go.RowKit Go.Proofs.YtihjjkoddphmiaaGreatDoorW.PrintWords Go.Proofs.YtihjjkoddphmiaaGreatDoorW.PrintLast Go.Proofs.YtihjjkoddphmiaaGreatDoorW.PrintMore Go.Proofs.YtihjjkoddphmiaaGreatDoor.PImageApart
set_option linter.unusedVariables false
set_option linter.unusedSimpArgs false

abbrev Seen := List Bool × List Int
def see1 (s : Seen) (n : Int) : Seen := if 0 < n then (if s.1.getD n.toNat false = true then s else (s.1.set n.toNat true, s.2 ++ [n])) else s
def seeL (s : Seen) (l : List Int) : Seen := l.foldl see1 s
theorem see1_len (s : Seen) (n : Int) : (see1 s n).1.length = s.1.length := by
 unfold see1; split
 ·split <;> simp
 ·rfl
theorem seeL_len (l : List Int) : ∀ s : Seen, (seeL s l).1.length = s.1.length := by
 induction l with
 | nil => intro s; rfl
 | cons a l ih => intro s; exact (ih (see1 s a)).trans (see1_len s a)
/-- The two captured variables, and the graph's box. -/
structure KW (w0 : World) (gb gs gw : Nat) (cs : Array Value) (w : World) (vs vw : Value) (st : Seen) : Prop where
 bel : Below w0.heap.size w0 w
 hb : w.heap[gb]? = some (.cells cs 44 (0, 0))
 hs : w.heap[gs]? = some (.cells #[vs] 125 (0, 0))
 hw : w.heap[gw]? = some (.cells #[vw] 25 (0, 0))
 S : Kd.R Kd.bool 4 w w0.heap.size (fun _ => True) vs st.1
 W : Kd.R (Kd.int .i64) 3 w w0.heap.size (fun _ => True) vw st.2
 B0 : w0.heap.size ≤ gb
 B1 : w0.heap.size ≤ gs
 B2 : w0.heap.size ≤ gw

section
variable {w0 w w1 : World} {gb gs gw : Nat} {cs : Array Value} {vs vw : Value} {st : Seen}
theorem KW.ns (h : KW w0 gb gs gw cs w vs vw st) : gs ≠ gw := by
 intro e
 have h1 := h.hs
 rw [e, h.hw] at h1
 simp at h1
theorem KW.nb (h : KW w0 gb gs gw cs w vs vw st) : gb ≠ gs ∧ gb ≠ gw := by
 have h1 := h.hb
 constructor
 ·intro e
  rw [e, h.hs] at h1
  simp at h1
 ·intro e
  rw [e, h.hw] at h1
  simp at h1
theorem KW.after (h : KW w0 gb gs gw cs w vs vw st) (hb : Below w.heap.size w w1) : KW w0 gb gs gw cs w1 vs vw st :=
 ⟨below_step h.bel hb, blk_below h.hb hb, blk_below h.hs hb, blk_below h.hw hb, Kd.R_below h.S hb, Kd.R_below h.W hb, h.B0, h.B1, h.B2⟩
/-- A mark is set. -/
theorem KW.mark {g cap n : Nat} (h : KW w0 gb gs gw cs w (.slice (some ⟨g, 0, none⟩) n cap) vw st) (hg : w0.heap.size ≤ g) (i : Int) : KW w0 gb gs gw cs (w.setCell ⟨g, i.toNat, none⟩ (.bool true)) (.slice (some ⟨g, 0, none⟩) n cap) vw (st.1.set i.toNat true, st.2) := by
 obtain ⟨hS, hgr⟩ := Kd.R_putg h.S i true
 have n0 : gb ≠ g := fun e => Kd.R_ne h.S h.hb (by decide) (by rw [e]; rfl)
 have n1 : gs ≠ g := fun e => Kd.R_ne h.S h.hs (by decide) (by rw [e]; rfl)
 have n2 : gw ≠ g := fun e => Kd.R_ne h.S h.hw (by decide) (by rw [e]; rfl)
 refine ⟨below_set h.bel hg, blk_far h.hb n0 _, blk_far h.hs n1 _, blk_far h.hw n2 _, hS, ?_, h.B0, h.B1, h.B2⟩
 have hblk : ∃ cells, w.heap[g]? = some (.cells cells 4 (0, 0)) := by
  obtain ⟨inner, ho⟩ := Kd.R_own h.S
  exact own_typed ho g rfl
 obtain ⟨cells, hc⟩ := hblk
 exact Kd.R_set h.W hc (by decide) _ _
/-- A number is laid on. -/
theorem KW.push {v1 : Value} {x : Int} (h : KW w0 gb gs gw cs w vs vw st) (hg : w.grownBy w1 vw.ownBlock) (hb : Below w0.heap.size w0 w1) (hW : Kd.R (Kd.int .i64) 3 w1 w0.heap.size (fun _ => True) v1 (st.2 ++ [x])) : KW w0 gb gs gw cs (w1.setCell ⟨gw, 0, none⟩ v1) vs v1 (st.1, st.2 ++ [x]) := by
 have e0 := blk_grown h.hb hg (Kd.R_ne h.W h.hb (by decide))
 have e1 := blk_grown h.hs hg (Kd.R_ne h.W h.hs (by decide))
 have e2 := blk_grown h.hw hg (Kd.R_ne h.W h.hw (by decide))
 refine ⟨below_set hb h.B2, blk_far e0 h.nb.2 _, blk_far e1 h.ns _, one_setCell e2, ?_, Kd.R_set hW e2 (by decide) _ _, h.B0, h.B1, h.B2⟩
 refine Kd.R_set ?_ e2 (by decide) _ _
 refine Kd.R_mono (Kd.R_grown (Kd.R_bound h.S) hg ?_) (fun _ _ => trivial)
 intro k hk
 obtain ⟨_, _, _, q, hq, cells, hc⟩ := hk
 have hq4 : q = 4 := by simpa [Kd.bool, Kd.scalar] using hq
 subst hq4
 exact Kd.R_ne h.W hc (by decide)
end

/-- No more numbers than marks. -/
def Inv (s : Seen) : Prop := s.2.length ≤ s.1.count true
theorem count_set {l : List Bool} {i : Nat} (h : i < l.length) (hf : l.getD i false = false) : (l.set i true).count true = l.count true + 1 := by
 rw [List.getD_eq_getElem?_getD, List.getElem?_eq_getElem h] at hf
 simp only [Option.getD_some] at hf
 rw [List.count_set (h := h)]
 simp [hf]
theorem see1_inv {s : Seen} (h : Inv s) {n : Int} (hn : n < s.1.length) : Inv (see1 s n) := by
 unfold see1; split
 ·split
  ·exact h
  ·rename_i h1 h2
   unfold Inv at h ⊢
   have := count_set (l := s.1) (i := n.toNat) (by omega) (by simpa using h2)
   simp only [List.length_append, List.length_singleton]
   omega
 ·exact h
theorem seeL_inv (l : List Int) : ∀ {s : Seen}, Inv s → (∀ x ∈ l, x < (s.1.length : Int)) → Inv (seeL s l) := by
 induction l with
 | nil => intro s h _; exact h
 | cons a l ih =>
  intro s h hl
  exact ih (see1_inv h (hl a (by simp))) (fun x hx => by rw [see1_len]; exact hl x (by simp [hx]))
theorem Inv.le {s : Seen} (h : Inv s) : s.2.length ≤ s.1.length := Nat.le_trans h List.count_le_length

set_option maxHeartbeats 4000000 in
set_option maxRecDepth 100000 in
theorem see_any (w0 : World) (gb gs gw : Nat) (cs : Array Value) (A : Option Addr) (c : Nat) (l : List Int) (w : World) (vs vw : Value) (st : Seen) (h : KW w0 gb gs gw cs w vs vw st)
  (hC : Kd.C (Kd.int .i64) w0 A l.length l) (hl : l.length ≤ 1000000) (hs : st.1.length ≤ 1000001) (hi : Inv st) (hx : ∀ x ∈ l, x < (st.1.length : Int)) :
  Calls Tryz.prog 94 #[.slice A l.length c, .pointer (some ⟨gs, 0, none⟩), .pointer (some ⟨gw, 0, none⟩)] w fun e w' => ∃ vs' vw', e = .returned (.tuple #[]) ∧ KW w0 gb gs gw cs w' vs' vw' (seeL st l) := by
 have HW := Aside0.mk h
 have HC := Aside0.mk hC
 have HI := Aside0.mk hi
 have HX := Aside0.mk hx
 obtain ⟨N, hN⟩ : ∃ N, N = st.1.length := ⟨_, rfl⟩
 rw [← hN] at hs HX
 have HN := Aside0.mk hN.symm
 obtain ⟨res, hres⟩ : ∃ res, seeL st l = res := ⟨_, rfl⟩
 rw [hres]
 have HRES := Aside0.mk hres
 clear h hC hi hx hN hres
 go_enter Tryz.func94, Tryz.ntmps94
 go_wp2
 go_loopw [8] (fun a wr => ∃ (k : Nat) (us uw : Value) (s : Seen), k ≤ l.length ∧ a = .int .i64 k ∧ Aside0 (seeL s (l.drop k) = res) ∧ Aside0 (s.1.length = N) ∧ Aside0 (Inv s) ∧ Aside0 (KW w0 gb gs gw cs wr us uw s)) (fun a _ => l.length - (intOf a).toNat)
 case atStart => exact ⟨0, vs, vw, st, Nat.zero_le _, rfl, HRES, HN, HI, HW⟩
 case round =>
  clear HW HI HRES HN
  obtain ⟨k, us, uw, s, hk, rfl, HRES, HN, HI, HW⟩ := hrel
  by_cases hlt : k < l.length
  ·obtain ⟨ad, rfl, hcell⟩ := Kd.at_int (Kd.C_below HC.out HW.out.bel) (k : Int) (by omega) (by omega)
   have hrd : rd l (k : Int) = l.getD k 0 := by simp [rd]
   have hmem : l.getD k 0 ∈ l := get_mem hlt
   have HXX := HX.out _ hmem
   have HD : Aside0 (l.drop k = l.getD k 0 :: l.drop (k + 1)) := ⟨drop_get l k 0 hlt⟩
   rw [hrd] at hcell
   clear hrd hmem
   generalize l.getD k 0 = x at *
   simp only [Int.toNat_natCast] at hcell
   have HR2 : Aside0 (seeL (see1 s x) (l.drop (k + 1)) = res) := ⟨by have := HRES.out; rw [HD.out] at this; exact this⟩
   by_cases t1 : 0 < x
   ·obtain ⟨As, cs', rfl, -, hCs⟩ := Kd.R_reads HW.out.S
    obtain ⟨ads, rfl, hb⟩ := Kd.at_bool hCs x (by omega) (by have := HN.out; omega)
    obtain ⟨go, co, eo, gbo, glo, clo, HGo⟩ := Kd.R_form HW.out.S (by have := HN.out; omega)
    injection eo with ea _ ec
    injection ea with ea
    subst ea
    subst ec
    obtain ⟨hx0, hf0⟩ := Kd.R_celln false HW.out.S x (by omega) (by have := HN.out; omega)
    have hrs : rdOf false s.1 x = s.1.getD x.toNat false := by simp [rdOf]
    rw [hrs] at hx0
    have hvs := cell_of_one HW.out.hs
    have hvw := cell_of_one HW.out.hw
    have hx1 : x < (s.1.length : Int) := by have := HN.out; omega
    cases hbb : s.1.getD x.toNat false
    ·rw [hbb] at hx0
     have HL := Aside0.mk (Nat.le_trans HI.out.le (by have := HN.out; omega : s.1.length ≤ 1000001))
     have HG := Aside0.mk gbo
     clear hCs hb HGo clo glo gbo
     go_wp2_with (first | ((with_reducible refine gate_store (t := 4) (p := 23) rfl ?_); refine store_event (t := 4) (p := 23) (v := ?vo) (w1 := (wr.setCell ⟨go, x.toNat, none⟩ (.bool true))) ?hg ?ho ?hn ?hr ?_; (case ho => rfl); (case hg => rfl); (case hn => rfl); (case hr => first | (go_simp; done) | (go_simp; rfl)); intro w2 hw; have HW2 := Aside0.mk (KW.mark HW.out HG.out x); rw [← hw] at HW2; have hvw2 := cell_of_one HW2.out.hw; clear hw) | (refine Kd.R_append (Kd.int .i64) (w0 := w0) w0.heap.size rfl (.tmp 24) (.tmp 26) 25 3 (.int .i64 0) 8 rfl Tryz.underlying25 info3 rfl (by decide) (by omega) uw s.2 x [.int .i64 x] (fun _ => True) (fun _ => False) rfl (by first | (go_simp; done) | (go_simp; rfl)) rfl (fun _ hk => hk.elim) (fun _ _ => trivial) HW2.out.W HW2.out.bel (below_size HW2.out.bel) (by have := HL.out; omega) ?_; intro v1 w3 ho hb hg hat; obtain ⟨Av, cv, rfl⟩ := Kd.R_slice ho; have e3 := blk_grown HW2.out.hw hg (Kd.R_ne HW2.out.W HW2.out.hw (by decide)); have hvw3 := cell_of_one e3; have hfw3 := free_of_one e3; have HP := Aside0.mk (KW.push HW2.out hg hb ho); clear ho hb hg hat e3))
     go_roundw
     case rel => exact ⟨k + 1, .slice (some ⟨go, 0, none⟩) s.1.length cs', .slice Av (s.2.length + 1) cv, (s.1.set x.toNat true, s.2 ++ [x]), by omega, by go_num, ⟨by have := HR2.out; rw [see1, if_pos t1, if_neg (by rw [hbb]; decide)] at this; exact this⟩, ⟨by simpa using HN.out⟩, ⟨by have := see1_inv HI.out hx1; rw [see1, if_pos t1, if_neg (by rw [hbb]; decide)] at this; exact this⟩, ⟨by have := HP.out; simpa only [List.length_append, List.length_singleton] using this⟩⟩
     case measure => simp [intOf]; omega
    ·rw [hbb] at hx0
     go_wp2
     go_roundw
     case rel => exact ⟨k + 1, _, uw, s, by omega, by go_num, ⟨by have := HR2.out; rw [see1, if_pos t1, if_pos hbb] at this; exact this⟩, HN, HI, HW⟩
     case measure => simp [intOf]; omega
   ·go_wp2
    go_roundw
    case rel => exact ⟨k + 1, us, uw, s, by omega, by go_num, ⟨by have := HR2.out; rw [see1, if_neg t1] at this; exact this⟩, HN, HI, HW⟩
    case measure => simp [intOf]; omega
  ·go_wp2
   go_end0
   have hd : l.drop k = [] := List.drop_eq_nil_of_le (by omega)
   have := HRES.out
   rw [hd] at this
   exact ⟨us, uw, rfl, by rw [← this]; exact HW.out⟩
end Go.Proofs.YtihjjkoddphmiaaGreatDoor.img

namespace Go.Proofs.YtihjjkoddphmiaaGreatDoor.img
open Go.RowKit Go.Proofs.YtihjjkoddphmiaaGreatDoorW.PrintWords Go.Proofs.YtihjjkoddphmiaaGreatDoorW.PrintLast Go.Proofs.YtihjjkoddphmiaaGreatDoorW.PrintMore Go.Proofs.YtihjjkoddphmiaaGreatDoor.PImageApart
set_option linter.unusedVariables false
set_option linter.unusedSimpArgs false

def seeF (s : Seen) (fr : List (List Int)) : Seen := fr.foldl seeL s
def seeS (s : Seen) (sl : List (List (List Int))) : Seen := sl.foldl seeF s
def workFrom (objs : List S66) : Nat → Nat → Seen → Seen
 | 0, _, s => s
 | f + 1, i, s => if i < s.2.length then workFrom objs f (i + 1) (seeL s (objs.getD (s.2.getD i 0 - 1).toNat z66).f3) else s
def seen0 (n : Nat) : Seen := ((List.replicate (n + 1) false).set 0 true, [])
def roots (g : Gr) : Seen := seeL (seeL (seeL (seeS (seen0 g.objs.length) g.slots) g.handles) g.queue) g.registry
def knownB (g : Gr) : Bool := decide ((workFrom g.objs (g.objs.length + 2) 0 (roots g)).2.length = g.objs.length)

/-- All that is pointed at is there. -/
structure Pts (g : Gr) : Prop where
 objs : ∀ o ∈ g.objs, o.f3.length ≤ 1000000 ∧ ∀ x ∈ o.f3, x ≤ (g.objs.length : Int)
 slots : ∀ fr ∈ g.slots, ∀ f ∈ fr, ∀ x ∈ f, x ≤ (g.objs.length : Int)
 handles : ∀ x ∈ g.handles, x ≤ (g.objs.length : Int)
 queue : ∀ x ∈ g.queue, x ≤ (g.objs.length : Int)
 registry : ∀ x ∈ g.registry, x ≤ (g.objs.length : Int)

/-- The variables are made. -/
theorem KW_start (w w1 w2 : World) (cs : Array Value) (go co n : Nat) (ho : Kd.bool.R 4 w1 (w.alloc (.cells cs 44)).heap.size (fun _ => True) (.slice (some ⟨go, 0, none⟩) (List.replicate (n + 1) false).length co) (List.replicate (n + 1) false))
  (hb : Below (w.alloc (.cells cs 44)).heap.size (w.alloc (.cells cs 44)) w1) (hw : w2 = (w1.alloc (.cells #[.slice (some ⟨go, 0, none⟩) (n + 1) co] 125)).setCell ⟨go, 0, none⟩ (.bool true)) :
  KW w w.heap.size w1.heap.size w2.heap.size cs (w2.alloc (.cells #[.slice none 0 0] 25)) (.slice (some ⟨go, 0, none⟩) (n + 1) co) (.slice none 0 0) (seen0 n) := by
 have hsz : (w.alloc (.cells cs 44)).heap.size = w.heap.size + 1 := by simp
 have hb1 : Below w.heap.size w w1 := below_step (below_alloc (Below.refl _ _) _) hb
 have hblk : w1.heap[w.heap.size]? = some (.cells cs 44 (0, 0)) := blk_below (heap_alloc_new w _) hb
 rw [List.length_replicate] at ho
 have hs1 : w.heap.size < w1.heap.size := blk_lt hblk
 obtain ⟨inner, hown⟩ := Kd.R_own ho
 obtain ⟨cells, hgo⟩ := own_typed hown go rfl
 have hlt : go < w1.heap.size := blk_lt hgo
 have hne : w.heap.size ≠ go := fun e => Kd.R_ne ho hblk (by decide) (by rw [e]; rfl)
 have hne2 : w1.heap.size ≠ go := by omega
 have hge : w.heap.size ≤ go := by have := own_base hown go rfl; omega
 have ho2 := Kd.R_lower (Kd.R_alloc ho (.cells #[.slice (some ⟨go, 0, none⟩) (n + 1) co] 125)) (show w.heap.size ≤ (w.alloc (.cells cs 44)).heap.size by omega)
 have ho3 : Kd.bool.R 4 w2 w.heap.size (fun _ => True) (.slice (some ⟨go, 0, none⟩) (n + 1) co) ((List.replicate (n + 1) false).set 0 true) := by
  rw [hw]; exact (Kd.R_putg ho2 0 true).1
 have e1 : w2.heap[w1.heap.size]? = some (.cells #[.slice (some ⟨go, 0, none⟩) (n + 1) co] 125 (0, 0)) := by
  rw [hw]; exact blk_far (heap_alloc_new w1 _) hne2 _
 have e0 : w2.heap[w.heap.size]? = some (.cells cs 44 (0, 0)) := by
  rw [hw]; exact blk_far (blk_alloc hblk _) hne _
 have hb2 : Below w.heap.size w w2 := by rw [hw]; exact below_set (below_alloc hb1 _) hge
 exact ⟨below_alloc hb2 _, blk_alloc e0 _, blk_alloc e1 _, heap_alloc_new w2 _, Kd.R_alloc ho3 _, Kd.R_nil _ _ _ _ _, Nat.le_refl _, by omega, below_size hb2⟩
theorem seen0_inv (n : Nat) : Inv (seen0 n) := by simp [Inv, seen0]
theorem seen0_len (n : Nat) : (seen0 n).1.length = n + 1 := by simp [seen0]

/-- What the marks and the numbers are. -/
structure Ok (n : Nat) (s : Seen) : Prop where
 len : s.1.length = n + 1
 inv : Inv s
 pos : ∀ x ∈ s.2, 0 < x ∧ x ≤ (n : Int)
theorem see1_pos {n : Nat} {s : Seen} (h : ∀ x ∈ s.2, 0 < x ∧ x ≤ (n : Int)) {a : Int} (ha : a ≤ n) : ∀ x ∈ (see1 s a).2, 0 < x ∧ x ≤ (n : Int) := by
 unfold see1; split
 ·split
  ·exact h
  ·intro x hx
   simp only [List.mem_append, List.mem_singleton] at hx
   rcases hx with hx | rfl
   ·exact h x hx
   ·omega
 ·exact h
theorem seeL_pos {n : Nat} (l : List Int) : ∀ {s : Seen}, (∀ x ∈ s.2, 0 < x ∧ x ≤ (n : Int)) → (∀ x ∈ l, x ≤ (n : Int)) → ∀ x ∈ (seeL s l).2, 0 < x ∧ x ≤ (n : Int) := by
 induction l with
 | nil => intro s h _; exact h
 | cons a l ih =>
  intro s h hl
  exact ih (see1_pos h (hl a (by simp))) (fun x hx => hl x (by simp [hx]))
theorem Ok.seeL {n : Nat} {s : Seen} (h : Ok n s) {l : List Int} (hl : ∀ x ∈ l, x ≤ (n : Int)) : Ok n (seeL s l) :=
 ⟨(seeL_len l s).trans h.len, seeL_inv l h.inv (fun x hx => by have := hl x hx; have := h.len; omega), seeL_pos l h.pos hl⟩
theorem Ok.start (n : Nat) : Ok n (seen0 n) := ⟨seen0_len n, seen0_inv n, by simp [seen0]⟩

theorem see1_grow (s : Seen) (n : Int) : s.2.length ≤ (see1 s n).2.length := by
 unfold see1; split
 ·split <;> simp
 ·exact Nat.le_refl _
theorem seeL_grow (l : List Int) : ∀ s : Seen, s.2.length ≤ (seeL s l).2.length := by
 induction l with
 | nil => intro s; exact Nat.le_refl _
 | cons a l ih => intro s; exact Nat.le_trans (see1_grow s a) (ih (see1 s a))

/-- The closure, as it is called. -/
theorem see_ok {w0 : World} {gb gs gw n : Nat} {cs : Array Value} {A : Option Addr} {c : Nat} {l : List Int} {w : World} {vs vw : Value} {st : Seen} (h : KW w0 gb gs gw cs w vs vw st) (ho : Ok n st) (hn : n ≤ 1000000)
  (hC : Kd.C (Kd.int .i64) w0 A l.length l) (hl : l.length ≤ 1000000) (hx : ∀ x ∈ l, x ≤ (n : Int)) :
  Calls Tryz.prog 94 #[.slice A l.length c, .pointer (some ⟨gs, 0, none⟩), .pointer (some ⟨gw, 0, none⟩)] w fun e w' => ∃ vs' vw', e = .returned (.tuple #[]) ∧ KW w0 gb gs gw cs w' vs' vw' (img.seeL st l) :=
 see_any w0 gb gs gw cs A c l w vs vw st h hC hl (by rw [ho.len]; omega) ho.inv (fun x hx' => by have := hx x hx'; rw [ho.len]; omega)

set_option maxHeartbeats 8000000 in
set_option maxRecDepth 100000 in
theorem known_any (L : Lay) (g : Gr) (hm : Mild g) (hp : Pts g) (w : World) (hR : Rd w L g) :
  Calls Tryz.prog 72 #[.agg (gcells L g).toArray] w fun e w' => e = .returned (.bool (knownB g)) ∧ Below w.heap.size w w' := by
 obtain ⟨A0, A1, A2, A3, A4, k0, k1, k2, k3, k4⟩ := L
 obtain ⟨objs, slots, handles, registry, queue, next⟩ := g
 have HM := Aside0.mk hm
 have HP := Aside0.mk hp
 have HR := Aside0.mk hR
 have hlen : objs.length ≤ 1000000 := hm.objs
 have hsl : slots.length ≤ 1000000 := hm.slots
 have hmf : ∀ (fn : Fn) (first cap : Array Value) (w : World), (Instr.makeFunc fn first cap).run Tryz.prog w = .ok (.func fn first cap) w := fun _ _ _ _ => rfl
 have hk0 : ((objs.length : Int) + 1).toNat = objs.length + 1 := by omega
 have hj : 0 ≤ (objs.length : Int) + 1 := by omega
 clear hm hp hR
 go_enter Tryz.func72, Tryz.ntmps72
 go_wp2_with (first | ((with_reducible refine gate_dst (N := 15) rfl ?_); refine Kd.R_make Kd.bool _ 4 rfl (N := 15) rfl 125 _ _ rfl ((objs.length : Int) + 1) rfl rfl Tryz.underlying125 (.bool false) 1 info4 rfl (by decide) (by omega) false (ok := fun _ => True) (okp := fun _ => True) rfl (fun _ hk => hk) trivial (by omega) (by omega) (Below.refl _ _) (Nat.le_refl _) ?_; intro v1 w1 ho hb hg hnew; rw [hk0] at ho; obtain ⟨go, co, rfl, gbo, glo, clo, HGo⟩ := Kd.R_form ho (by simp); obtain ⟨hx0, hf0⟩ := Kd.R_celln false (Kd.R_alloc ho (.cells #[.slice (some ⟨go, 0, none⟩) (objs.length + 1) co] 125)) 0 (by omega) (by first | omega | (simp; done) | (simp; omega)); simp only [Int.toNat_zero] at hx0 hf0; have HO := Aside0.mk ho; have HB := Aside0.mk hb; clear ho hb hg hnew gbo glo HGo clo) | ((with_reducible refine gate_store (t := 4) (p := 17) rfl ?_); refine store_event (t := 4) (p := 17) (v := ?vo) (w1 := ((w1.alloc (.cells #[.slice (some ⟨go, 0, none⟩) (objs.length + 1) co] 125)).setCell ⟨go, 0, none⟩ (.bool true))) ?hg ?ho ?hn ?hr ?_; (case ho => rfl); (case hg => rfl); (case hn => rfl); (case hr => first | (go_simp; done) | (go_simp; rfl)); intro w2 hw; have HK := Aside0.mk (KW_start w w1 w2 _ go co _ HO.out HB.out hw); have hc1 : (w2.alloc (.cells #[.slice none 0 0] 25)).cell? ⟨w.heap.size, 1, none⟩ = some (.slice A1 slots.length k1) := (blk_cell HK.out.hb 1).trans rfl; clear HO HB hw hx0 hf0))
 generalize w2.alloc (.cells #[.slice none 0 0] 25) = w3 at *
 generalize w2.heap.size = gw at *
 obtain ⟨G, hG⟩ : ∃ G : Array Value, G = (gcells ⟨A0, A1, A2, A3, A4, k0, k1, k2, k3, k4⟩ ⟨objs, slots, handles, registry, queue, next⟩).toArray := ⟨_, rfl⟩
 obtain ⟨res1, hres1⟩ : ∃ s1 : Seen, seeS (seen0 objs.length) slots = s1 := ⟨_, rfl⟩
 go_loopw [22] (fun a wr => ∃ (k : Nat) (us uw : Value) (s : Seen), k ≤ slots.length ∧ a = .int .i64 k ∧ Aside0 (seeS s (slots.drop k) = res1) ∧ Aside0 (Ok objs.length s) ∧ Aside0 (KW w w.heap.size w1.heap.size gw G wr us uw s)) (fun a _ => slots.length - (intOf a).toNat)
 case atStart => exact ⟨0, _, _, _, Nat.zero_le _, rfl, ⟨hres1⟩, ⟨Ok.start _⟩, ⟨by rw [hG]; exact HK.out⟩⟩
 case round =>
  clear HK hc1
  obtain ⟨k, us, uw, s, hk, rfl, HRES, HO, HK⟩ := hrel
  by_cases hlt : k < slots.length
  ·obtain ⟨ad, B, b, rfl, hcell, hbl, hCB⟩ := at_L5 HR.out.r1 (k : Int) (by omega) (by show (k : Int) < (slots.length : Int); omega)
   have hrd : rd_L5 slots (k : Int) = slots.getD k [] := by simp [rd_L5]
   have hmem : slots.getD k [] ∈ slots := get_mem hlt
   have HP1 := Aside0.mk (HP.out.slots _ hmem)
   have HM1 := Aside0.mk (HM.out.slot _ hmem)
   have hM2 := HM.out.frames _ hmem
   have HD : Aside0 (slots.drop k = slots.getD k [] :: slots.drop (k + 1)) := ⟨drop_get slots k [] hlt⟩
   rw [hrd] at hcell hbl hCB
   clear hrd hmem
   replace hcell := (HK.out.bel.cell (World.block_lt_of_cell? w _ hcell)).trans hcell
   have HCB := Aside0.mk hCB
   clear hCB
   generalize slots.getD k [] = fr at *
   simp only [Int.toNat_natCast] at hcell
   have HR1 : Aside0 (seeS (seeF s fr) (slots.drop (k + 1)) = res1) := ⟨by have := HRES.out; rw [HD.out] at this; exact this⟩
   clear HRES HD
   go_wp2
   obtain ⟨res2, hres2⟩ : ∃ s2 : Seen, seeF s fr = s2 := ⟨_, rfl⟩
   go_loopw [28] (fun a wq => ∃ (j : Nat) (us uw : Value) (s : Seen), j ≤ fr.length ∧ a = .int .i64 j ∧ Aside0 (seeF s (fr.drop j) = res2) ∧ Aside0 (Ok objs.length s) ∧ Aside0 (KW w w.heap.size w1.heap.size gw G wq us uw s)) (fun a _ => fr.length - (intOf a).toNat)
   case atStart => exact ⟨0, _, _, _, Nat.zero_le _, rfl, ⟨hres2⟩, HO, HK⟩
   case round =>
    clear HK HO hcell
    rw [hres2] at HR1
    clear hres2
    obtain ⟨j, us', uw', s', hj', rfl, HRES, HO, HK⟩ := hrel
    by_cases hlt2 : j < fr.length
    ·obtain ⟨ad2, F, f, rfl, hcell, hfl, hCF⟩ := at_L2 HCB.out (j : Int) (by omega) (by omega)
     have hrd : rd_L2 fr (j : Int) = fr.getD j [] := by simp [rd_L2]
     have hmem : fr.getD j [] ∈ fr := get_mem hlt2
     have HP2 := Aside0.mk (HP1.out _ hmem)
     have hM3 := HM1.out _ hmem
     have HD : Aside0 (fr.drop j = fr.getD j [] :: fr.drop (j + 1)) := ⟨drop_get fr j [] hlt2⟩
     rw [hrd] at hcell hfl hCF
     clear hrd hmem
     replace hcell := (HK.out.bel.cell (World.block_lt_of_cell? w _ hcell)).trans hcell
     have HCF := Aside0.mk hCF
     clear hCF
     generalize fr.getD j [] = l at *
     simp only [Int.toNat_natCast] at hcell
     have HR2 : Aside0 (seeF (seeL s' l) (fr.drop (j + 1)) = res2) := ⟨by have := HRES.out; rw [HD.out] at this; exact this⟩
     clear HRES HD
     go_wp2_with (go_at_call 94; refine (see_ok HK.out HO.out hlen HCF.out hM3 HP2.out).mono ?_; rintro en w4 ⟨vs', vw', rfl, hk4⟩; have HK4 := Aside0.mk hk4; clear hk4)
     go_roundw
     case rel => exact ⟨j + 1, _, _, _, by omega, by go_num, HR2, ⟨HO.out.seeL HP2.out⟩, HK4⟩
     case measure => simp [intOf]; omega
    ·go_wp2
     go_roundw
     case rel =>
      have hd : fr.drop j = [] := List.drop_eq_nil_of_le (by omega)
      have e := HRES.out
      rw [hd] at e
      have e2 : s' = res2 := e
      subst e2
      exact ⟨k + 1, _, _, _, by omega, by go_num, HR1, HO, HK⟩
     case measure => simp [intOf]; omega
  ·have hd : slots.drop k = [] := List.drop_eq_nil_of_le (by omega)
   have e := HRES.out
   rw [hd] at e
   have e2 : s = res1 := e
   subst e2
   clear HRES e hd
   have hc2 : wr.cell? ⟨w.heap.size, 2, none⟩ = some (.slice A2 handles.length k2) := (blk_cell HK.out.hb 2).trans (by rw [hG]; rfl)
   go_wp2_with (fail)
   refine (see_ok (w := wr) (A := A2) (c := k2) HK.out HO.out hlen HR.out.r2 HM.out.handles HP.out.handles).mono ?_
   rintro en w4 ⟨vs4, vw4, rfl, hk4⟩
   have HK4 := Aside0.mk hk4
   have HO4 := Aside0.mk (HO.out.seeL HP.out.handles)
   clear hk4
   have hc4 : w4.cell? ⟨w.heap.size, 4, none⟩ = some (.slice A4 queue.length k4) := (blk_cell HK4.out.hb 4).trans (by rw [hG]; rfl)
   go_wp2_with (fail)
   refine (see_ok (w := w4) (A := A4) (c := k4) HK4.out HO4.out hlen HR.out.r4 HM.out.queue HP.out.queue).mono ?_
   rintro en w5 ⟨vs5, vw5, rfl, hk4⟩
   have HK5 := Aside0.mk hk4
   have HO5 := Aside0.mk (HO4.out.seeL HP.out.queue)
   clear hk4 hc2 hc4
   have hc3 : w5.cell? ⟨w.heap.size, 3, none⟩ = some (.slice A3 registry.length k3) := (blk_cell HK5.out.hb 3).trans (by rw [hG]; rfl)
   go_wp2_with (fail)
   refine (see_ok (w := w5) (A := A3) (c := k3) HK5.out HO5.out hlen HR.out.r3 HM.out.registry HP.out.registry).mono ?_
   rintro en w6 ⟨vs6, vw6, rfl, hk4⟩
   have HK6 := Aside0.mk hk4
   have HO6 := Aside0.mk (HO5.out.seeL HP.out.registry)
   clear hk4 hc3
   go_wp2
   have HRT : Aside0 (roots ⟨objs, slots, handles, registry, queue, next⟩ = seeL (seeL (seeL s handles) queue) registry) := ⟨by rw [roots, hres1]⟩
   clear HK HK4 HK5 HO HO4 HO5 hres1
   generalize seeL (seeL (seeL s handles) queue) registry = s0 at *
   obtain ⟨res, hres⟩ : ∃ s2 : Seen, workFrom objs (objs.length + 2) 0 s0 = s2 := ⟨_, rfl⟩
   have HKN : Aside0 (knownB ⟨objs, slots, handles, registry, queue, next⟩ = decide (res.2.length = objs.length)) := ⟨by rw [knownB, HRT.out, hres]⟩
   go_loopw [10] (fun a wq => ∃ (i : Nat) (us uw : Value) (s : Seen), i ≤ s.2.length ∧ a = .int .i64 i ∧ Aside0 (workFrom objs (objs.length + 2 - i) i s = res) ∧ Aside0 (Ok objs.length s) ∧ Aside0 (KW w w.heap.size w1.heap.size gw G wq us uw s)) (fun a _ => objs.length + 2 - (intOf a).toNat)
   case atStart => exact ⟨0, _, _, _, Nat.zero_le _, rfl, ⟨hres⟩, HO6, HK6⟩
   case round =>
    clear HK6 HO6 hres HRT
    obtain ⟨i, us, uw, s, hi, rfl, HRES, HO, HK⟩ := hrel
    have hwl : s.2.length ≤ objs.length + 1 := by have := HO.out.inv.le; rw [HO.out.len] at this; exact this
    obtain ⟨Av, cv, rfl, -, hCW⟩ := Kd.R_reads HK.out.W
    have hvw := cell_of_one HK.out.hw
    have hc0 : wr.cell? ⟨w.heap.size, 0, none⟩ = some (.slice A0 objs.length k0) := (blk_cell HK.out.hb 0).trans (by rw [hG]; rfl)
    by_cases hlt : i < s.2.length
    ·obtain ⟨adw, rfl, hcw⟩ := Kd.at_int hCW (i : Int) (by omega) (by omega)
     have hrd : rd s.2 (i : Int) = s.2.getD i 0 := by simp [rd]
     have hmem : s.2.getD i 0 ∈ s.2 := get_mem hlt
     obtain ⟨hx0, hx1⟩ := HO.out.pos _ hmem
     have HW : Aside0 (workFrom objs (objs.length + 2 - (i + 1)) (i + 1) (seeL s (objs.getD (s.2.getD i 0 - 1).toNat z66).f3) = res) := ⟨by
      have e := HRES.out
      rw [show objs.length + 2 - i = (objs.length + 2 - (i + 1)) + 1 by omega, workFrom, if_pos hlt] at e
      exact e⟩
     rw [hrd] at hcw
     clear hrd hmem HRES
     generalize s.2.getD i 0 = x at *
     simp only [Int.toNat_natCast] at hcw
     obtain ⟨m, rfl⟩ : ∃ m : Nat, x = (m : Int) + 1 := ⟨(x - 1).toNat, by omega⟩
     have hmo : m < objs.length := by omega
     have hm1 : ((m : Int) + 1 - 1).toNat = m := by omega
     rw [hm1] at HW
     clear hm1
     obtain ⟨ado, B3, b3, B4, b4, rfl, q0, q1, q2, q3, q4, l3, C3, l4, C4⟩ := at_T66 HR.out.r0 (m : Int) (by omega) (by show (m : Int) < (objs.length : Int); omega)
     have hrd : rd_T66 objs (m : Int) = objs.getD m z66 := by simp [rd_T66]
     have hmem : objs.getD m z66 ∈ objs := get_mem hmo
     have HPO := Aside0.mk (HP.out.objs _ hmem)
     rw [hrd] at q3 C3
     clear q0 q1 q2 q4 l3 l4 C4 hrd hmem
     replace q3 := (HK.out.bel.cell (World.block_lt_of_cell? w _ q3)).trans q3
     simp only [Int.toNat_natCast] at q3
     have HC3 := Aside0.mk C3
     clear C3
     generalize objs.getD m z66 = o at *
     have hwx : IntKind.i64.wrap (m : Int) = (m : Int) := by rw [IntKind.wrap_i64]; omega
     go_wp2
     go_still_tail 11, (by kernel_rfl)
     change wpList _ _ _ _ _ wr.drew
     have HKD := Aside0.mk (HK.out.after (w1 := wr.drew) (by exact pw_below_drewN (Below.refl _ _) 1))
     generalize wr.drew = wd at *
     go_wp2_with (fail)
     refine (see_ok (w := wd) (A := B3) (c := b3) HKD.out HO.out hlen HC3.out HPO.out.1 HPO.out.2).mono ?_
     rintro en w7 ⟨vs7, vw7, rfl, hk4⟩
     have HK7 := Aside0.mk hk4
     have HO7 := Aside0.mk (HO.out.seeL HPO.out.2)
     clear hk4
     go_wp2
     go_roundw
     case rel => exact ⟨i + 1, _, _, _, by have := seeL_grow o.f3 s; omega, by go_num, HW, HO7, HK7⟩
     case measure => simp [intOf]; omega
    ·go_wp2
     go_ret
     refine ⟨?_, HK.out.bel⟩
     rw [HKN.out]
     have e := HRES.out
     have e2 : workFrom objs (objs.length + 2 - i) i s = s := by
      cases objs.length + 2 - i with
      | zero => rfl
      | succ f => rw [workFrom, if_neg hlt]
     rw [e2] at e
     rw [← e]
     by_cases hq : s.2.length = objs.length
     ·simp [hq]
     ·have hq2 : ((s.2.length : Int) == (objs.length : Int)) = false := beq_eq_false_iff_ne.mpr (by omega)
      have hq3 : decide (s.2.length = objs.length) = false := decide_eq_false hq
      rw [hq3, hq2]
      rfl
end Go.Proofs.YtihjjkoddphmiaaGreatDoor.img

namespace Go.Proofs.YtihjjkoddphmiaaGreatDoor.img
open Go.RowKit Go.Proofs.YtihjjkoddphmiaaGreatDoorW.PrintWords Go.Proofs.YtihjjkoddphmiaaGreatDoorW.PrintLast Go.Proofs.YtihjjkoddphmiaaGreatDoorW.PrintMore Go.Proofs.YtihjjkoddphmiaaGreatDoor.PImageApart
set_option linter.unusedVariables false
set_option linter.unusedSimpArgs false

theorem objsFrom_mem {n next : Int} : ∀ {l : List S66} {last : Int}, objsFrom n next last l = true → ∀ o ∈ l, last < o.f0 ∧ o.f0 < next ∧ chk o.f1 o.f3.length o.f4.length o.f2 = 0 ∧ numsB n 0 o.f3 = true
 | [], _, _, o, ho => by simp at ho
 | a :: r, last, h, o, ho => by
  rw [objsFrom] at h
  by_cases t1 : a.f0 ≤ last
  ·rw [if_pos t1] at h; exact absurd h (by decide)
  by_cases t2 : next ≤ a.f0
  ·rw [if_neg t1, if_pos t2] at h; exact absurd h (by decide)
  by_cases t3 : chk a.f1 a.f3.length a.f4.length a.f2 ≠ 0
  ·rw [if_neg t1, if_neg t2, if_pos t3] at h; exact absurd h (by decide)
  by_cases t4 : numsB n 0 a.f3 = true
  ·rw [if_neg t1, if_neg t2, if_neg t3, if_pos t4] at h
   rcases List.mem_cons.1 ho with rfl | ho
   ·exact ⟨by omega, by omega, Decidable.not_not.1 t3, t4⟩
   ·have := objsFrom_mem h o ho
    exact ⟨by omega, this.2⟩
  ·rw [if_neg t1, if_neg t2, if_neg t3, if_neg t4] at h; exact absurd h (by decide)

theorem objsB_mem {g : Gr} (h : objsB g = true) : (1 ≤ g.next ∧ g.next ≤ 4611686018427387905) ∧ objsFrom g.objs.length g.next 0 g.objs = true := by
 unfold objsB at h
 by_cases h1 : g.next < 1
 ·rw [if_pos h1] at h; exact absurd h (by decide)
 by_cases h2 : 4611686018427387905 < g.next
 ·rw [if_neg h1, if_pos h2] at h; exact absurd h (by decide)
 rw [if_neg h1, if_neg h2] at h
 exact ⟨by omega, h⟩

theorem framesB_mem {n : Int} : ∀ {l : List (List Int)} {s : Int}, framesB n s l = true → ∀ f ∈ l, 1 ≤ f.length ∧ numsB n 0 f = true
 | [], _, _, f, hf => by simp at hf
 | a :: r, s, h, f, hf => by
  rw [framesB] at h
  by_cases t1 : a.length < 1
  ·rw [if_pos t1] at h; exact absurd h (by decide)
  by_cases t2 : numsB n 0 a = true
  ·rw [if_neg t1, if_pos t2] at h
   rcases List.mem_cons.1 hf with rfl | hf
   ·exact ⟨by omega, t2⟩
   ·exact framesB_mem h f hf
  ·rw [if_neg t1, if_neg t2] at h; exact absurd h (by decide)
theorem slotsB_mem {n : Int} : ∀ {l : List (List (List Int))}, slotsB n l = true → ∀ fr ∈ l, framesB n 0 fr = true
 | [], _, f, hf => by simp at hf
 | a :: r, h, f, hf => by
  rw [slotsB, Bool.and_eq_true] at h
  rcases List.mem_cons.1 hf with rfl | hf
  ·exact h.1
  ·exact slotsB_mem h.2 f hf
theorem finalsFrom_mem : ∀ (l : List S66) (i : Nat), ∀ x ∈ finalsFrom i l, x ≤ (i : Int) + l.length
 | [], i, x, h => by simp [finalsFrom] at h
 | a :: r, i, x, h => by
  unfold finalsFrom at h
  simp only [List.length_cons]
  split at h
  ·rcases List.mem_cons.1 h with rfl | h
   ·omega
   ·have := finalsFrom_mem r (i + 1) x h; omega
  ·have := finalsFrom_mem r (i + 1) x h; omega

/-- What the holders tell. -/
theorem holdB_mem {g : Gr} (h : holdB g = true) : (1 ≤ g.slots.length ∧ g.slots.length ≤ 8 ∧ g.handles.length ≤ 1024) ∧ slotsB g.objs.length g.slots = true ∧ numsB g.objs.length (-1) g.handles = true ∧ numsB g.objs.length 1 g.queue = true ∧ finals g.objs = g.registry := by
 unfold holdB at h
 by_cases h1 : g.slots.length < 1
 ·rw [if_pos h1] at h; exact absurd h (by decide)
 by_cases h2 : g.slots.length > 8
 ·rw [if_neg h1, if_pos h2] at h; exact absurd h (by decide)
 by_cases h3 : g.handles.length > 1024
 ·rw [if_neg h1, if_neg h2, if_pos h3] at h; exact absurd h (by decide)
 rw [if_neg h1, if_neg h2, if_neg h3, Bool.and_eq_true] at h
 obtain ⟨h4, h5⟩ := h
 unfold tailB at h5
 by_cases h6 : numsB g.objs.length (-1) g.handles = true
 ·rw [if_pos h6] at h5
  by_cases h7 : numsB g.objs.length 1 g.queue = true
  ·rw [if_pos h7] at h5
   unfold regB at h5
   by_cases h8 : (finals g.objs).length = g.registry.length
   ·rw [if_pos h8, Bool.and_eq_true] at h5
    exact ⟨by omega, h4, h6, h7, of_decide_eq_true h5.1⟩
   ·rw [if_neg h8] at h5; exact absurd h5 (by decide)
  ·rw [if_neg h7] at h5; exact absurd h5 (by decide)
 ·rw [if_neg h6] at h5; exact absurd h5 (by decide)

theorem pts_of {g : Gr} (ho : ∀ o ∈ g.objs, o.f3.length ≤ 1000000 ∧ o.f4.length ≤ 1000000) (h1 : objsB g = true) (h2 : holdB g = true) : Pts g := by
 obtain ⟨-, h3, h4, h5, h6⟩ := holdB_mem h2
 obtain ⟨-, h7⟩ := objsB_mem h1
 refine ⟨fun o hm => ⟨(ho o hm).1, fun x hx => (nums_get (objsFrom_mem h7 o hm).2.2.2 hx).2⟩, fun fr hfr f hf x hx => (nums_get (framesB_mem (slotsB_mem h3 fr hfr) f hf).2 hx).2, fun x hx => (nums_get h4 hx).2, fun x hx => (nums_get h5 hx).2, fun x hx => ?_⟩
 rw [← h6] at hx
 have := finalsFrom_mem g.objs 0 x hx
 simpa using this

def okB (g : Gr) : Bool := if objsB g = true then (if holdB g = true then knownB g else false) else false

/-- Small enough to be gone through. -/
structure Tame (g : Gr) : Prop where
 mild : Mild g
 objs : ∀ o ∈ g.objs, o.f3.length ≤ 1000000 ∧ o.f4.length ≤ 1000000

end Go.Proofs.YtihjjkoddphmiaaGreatDoor.img
