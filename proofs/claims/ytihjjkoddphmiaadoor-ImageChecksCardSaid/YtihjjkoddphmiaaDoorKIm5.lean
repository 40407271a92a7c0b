import Derived.Test.YtihjjkoddphmiaaDoorKIm2
import Derived.Test.YtihjjkoddphmiaaDoorKIm4
import Derived.Test.YtihjjkoddphmiaaDoorKIm3
import Derived.Test.YtihjjkoddphmiaaDoorKIm1
import Derived.Test.YtihjjkoddphmiaaDoorKPImageRoundx1
import Derived.Test.YtihjjkoddphmiaaDoorKPImageRoundx6
import Derived.Laws.BitsLemmas
import Derived.Defers
import Derived.Recover
import Derived.RegionTactic
namespace Go.Proofs.YtihjjkoddphmiaaDoor.img
open Go.RowKit Go.Proofs.YtihjjkoddphmiaaDoorW.PrintWords Go.Proofs.YtihjjkoddphmiaaDoorW.PrintMore Go.Proofs.YtihjjkoddphmiaaDoor.PImageRound
set_option linter.unusedVariables false
set_option linter.unusedSimpArgs false

/-- The walk over a whole graph with a reader: where it stands. -/
structure RA (w0 w : World) (gr gg gq gf c : Nat) (B : Option Addr) (bs : List Int) (q : Nat) (cx : Array Value) (wi : World) : Prop where
  rs : RS w0 w gr gg 27 c B bs (fun _ => False) q cx wi
  q : wi.heap[gq]? = some (.cells #[.iface 91 (.pointer (some ⟨gr, 0, none⟩))] 111 (0, 0))
  f : wi.heap[gf]? = some (.cells #[.func (.func 66) #[] #[.pointer (some ⟨gq, 0, none⟩)]] 114 (0, 0))
section
variable {w0 w wi wj : World} {gr gg gq gf c q q' : Nat} {B : Option Addr} {bs : List Int} {S : Nat → Prop} {cx cx' : Array Value}
theorem RA.below (h : RA w0 w gr gg gq gf c B bs q cx wi) (hb : Below wi.heap.size wi wj) : RA w0 w gr gg gq gf c B bs q cx wj := ⟨h.rs.below hb, blk_below h.q hb, blk_below h.f hb⟩
theorem RA.step (h : RA w0 w gr gg gq gf c B bs q cx wi) (hr : Rr w0 gr B c bs q' wj) (hk : Kept wi wj S) (hS : ∀ k, S k → k = gr ∨ k = gg ∨ w.heap.size ≤ k) (hq : ¬ S gq) (hf : ¬ S gf) (hb : wj.heap[gg]? = some (.cells cx' 27 (0, 0))) : RA w0 w gr gg gq gf c B bs q' cx' wj :=
  ⟨h.rs.step hr hk (fun k e => (hS k e).elim (fun e => .inl (.inl e)) (fun e => e.elim (fun e => .inl (.inr (.inl e))) .inr)) hb, blk_kept h.q hk hq, blk_kept h.f hk hf⟩
theorem RA.cf (h : RA w0 w gr gg gq gf c B bs q cx wi) : wi.cell? ⟨gf, 0, none⟩ = some (.func (.func 66) #[] #[.pointer (some ⟨gq, 0, none⟩)]) := (blk_cell h.f 0).trans rfl
end
end Go.Proofs.YtihjjkoddphmiaaDoor.img

namespace Go.Proofs.YtihjjkoddphmiaaDoor.img
open Go.RowKit Go.Proofs.YtihjjkoddphmiaaDoorW.PrintWords Go.Proofs.YtihjjkoddphmiaaDoorW.PrintLast Go.Proofs.YtihjjkoddphmiaaDoorW.PrintMore Go.Proofs.YtihjjkoddphmiaaDoor.PImageRound
set_option linter.unusedVariables false
set_option linter.unusedSimpArgs false

/-- A graph whose lists are all short. -/
structure Near (g : Gr) : Prop where
  objs : g.objs.length ≤ 131072
  slots : g.slots.length ≤ 131072
  handles : g.handles.length ≤ 131072
  registry : g.registry.length ≤ 131072
  queue : g.queue.length ≤ 131072
  obj : ∀ o ∈ g.objs, o.f3.length ≤ 131072 ∧ o.f4.length ≤ 131072
  frames : ∀ fr ∈ g.slots, fr.length ≤ 131072 ∧ ∀ f ∈ fr, f.length ≤ 131072
theorem Near.tame {g : Gr} (h : Near g) : Tame g :=
  ⟨⟨Nat.le_trans h.objs (by decide), Nat.le_trans h.slots (by decide), fun fr hf => Nat.le_trans (h.frames fr hf).1 (by decide), fun fr hf f hff => Nat.le_trans ((h.frames fr hf).2 f hff) (by decide), Nat.le_trans h.handles (by decide), Nat.le_trans h.registry (by decide), Nat.le_trans h.queue (by decide)⟩,
    fun o ho => ⟨Nat.le_trans (h.obj o ho).1 (by decide), Nat.le_trans (h.obj o ho).2 (by decide)⟩⟩
/-- Each list takes what a machine's memory may. -/
structure Roomy (g : Gr) : Prop where
  objs : g.objs.length ≤ 140737488355328
  slots : g.slots.length ≤ 140737488355328
  handles : g.handles.length ≤ 140737488355328
  registry : g.registry.length ≤ 140737488355328
  queue : g.queue.length ≤ 140737488355328
  obj : ∀ o ∈ g.objs, o.f3.length ≤ 140737488355328 ∧ o.f4.length ≤ 140737488355328
  frames : ∀ fr ∈ g.slots, fr.length ≤ 140737488355328 ∧ ∀ f ∈ fr, f.length ≤ 140737488355328

end Go.Proofs.YtihjjkoddphmiaaDoor.img

namespace Go.Proofs.YtihjjkoddphmiaaDoor.img
open Go.RowKit Go.Proofs.YtihjjkoddphmiaaDoorW.PrintWords Go.Proofs.YtihjjkoddphmiaaDoorW.PrintLast Go.Proofs.YtihjjkoddphmiaaDoorW.PrintMore Go.Proofs.YtihjjkoddphmiaaDoor.PImageRound
set_option linter.unusedVariables false
set_option linter.unusedSimpArgs false

/-- The raw words are of their kind. -/
def Words (g : Gr) : Prop := ∀ o ∈ g.objs, ∀ x ∈ o.f4, 0 ≤ x ∧ x < 18446744073709551616

/-- What okB gives. -/
structure Good (g : Gr) : Prop where
  next : 1 ≤ g.next ∧ g.next ≤ 4611686018427387905
  objs : allS (fun _ o => o.f0) okW 0 g.objs
  slots : g.slots.length ≤ 8 ∧ ∀ fr ∈ g.slots, fr.length ≤ 4096 ∧ ∀ f ∈ fr, f.length ≤ 4096 ∧ ∀ x ∈ f, 0 ≤ x ∧ x ≤ 131072
  handles : g.handles.length ≤ 1024 ∧ ∀ x ∈ g.handles, -1 ≤ x ∧ x ≤ 131072
  queue : ∀ x ∈ g.queue, 1 ≤ x ∧ x ≤ 131072
  registry : g.registry = finals g.objs
theorem encL_len {α : Type} {E : α → List Int} {k : Nat} {l : List α} (hl : l.length < 18446744073709551616) (h : ∀ x ∈ l, (E x).length ≤ k) : (encL E l).length ≤ 10 + l.length * k := by
  have h1 := flat_len h
  have h2 := enc_ten hl
  unfold encL
  rw [List.length_append]
  omega
theorem encOs_len {k : Nat} (hk : k ≤ 131072) : ∀ (l : List S62) (last : Int), allS (fun _ o => o.f0) okW last l → (∀ o ∈ l, o.f3.length ≤ k ∧ o.f4.length ≤ k) → (encOs last l).length ≤ l.length * (50 + 20 * k)
  | [], _, _, _ => by simp [encOs]
  | a :: r, last, ha, hl => by
    have h1 := encOs_len hk r a.f0 ha.2 (fun o ho => hl o (by simp [ho]))
    obtain ⟨⟨a1, a2, a3⟩, b, c, d, e⟩ := ha.1
    have h2 := hl a (by simp)
    have e1 : (enc (a.f0 - last).toNat).length ≤ 10 := enc_ten (by omega)
    have e2 : (encI 0 a.f1).length ≤ 10 := encI_ten (by omega)
    have e3 : (encI 0 a.f2).length ≤ 10 := encI_ten (by omega)
    have e4 := encL_len (E := encI 0) (k := 10) (l := a.f3) (by omega) (fun x hx => encI_ten (by have := d.2 x hx; omega))
    have e5 := encL_len (E := encI 0) (k := 10) (l := a.f4) (by omega) (fun x hx => encI_ten (by have := e.2 x hx; omega))
    rw [encOs]
    simp only [encO, List.length_append, List.length_cons, Nat.add_mul]
    omega
theorem Good.len {g : Gr} (h : Good g) (hn : Near g) : (rest g).length ≤ 400000000000 := by
  have h1 := encOs_len (Nat.le_refl _) g.objs 0 h.objs hn.obj
  have h2 : (encL (encL (encL (encI 0))) g.slots).length ≤ 10 + g.slots.length * (10 + 4096 * (10 + 4096 * 10)) := by
    refine encL_len (by have := hn.slots; omega) (fun fr hf => ?_)
    obtain ⟨c1, c2⟩ := h.slots.2 fr hf
    refine Nat.le_trans (encL_len (k := 10 + 4096 * 10) (by omega) (fun f hff => ?_)) ?_
    · refine Nat.le_trans (encL_len (k := 10) (by have := (c2 f hff).1; omega) (fun x hx => encI_ten (by have := (c2 f hff).2 x hx; omega))) ?_
      have := (c2 f hff).1
      omega
    · have : fr.length * (10 + 4096 * 10) ≤ 4096 * (10 + 4096 * 10) := Nat.mul_le_mul_right _ c1
      omega
  have h3 := encL_len (E := encI 1) (k := 10) (l := g.handles) (by have := hn.handles; omega) (fun x hx => encI_ten (by have := h.handles.2 x hx; omega))
  have h4 := encL_len (E := encI 0) (k := 10) (l := g.queue) (by have := hn.queue; omega) (fun x hx => encI_ten (by have := h.queue x hx; omega))
  have h5 : (enc g.next.toNat).length ≤ 10 := enc_ten (by have := h.next; omega)
  have h6 : (enc g.objs.length).length ≤ 10 := enc_ten (by have := hn.objs; omega)
  have hs := h.slots.1
  have ho := hn.objs
  have hh := h.handles.1
  have hq := hn.queue
  have e1 : g.objs.length * (50 + 20 * 131072) ≤ 131072 * (50 + 20 * 131072) := Nat.mul_le_mul_right _ ho
  unfold rest
  simp only [List.length_append]
  omega
end Go.Proofs.YtihjjkoddphmiaaDoor.img

namespace Go.Proofs.YtihjjkoddphmiaaDoor.img
open Go.RowKit Go.Proofs.YtihjjkoddphmiaaDoorW.PrintWords Go.Proofs.YtihjjkoddphmiaaDoorW.PrintLast Go.Proofs.YtihjjkoddphmiaaDoorW.PrintMore Go.Proofs.YtihjjkoddphmiaaDoor.PImageRound
set_option linter.unusedVariables false
set_option linter.unusedSimpArgs false

/-- A checksum's bytes. -/
def sb (n : Nat) : List Int := [((n % 256 : Nat) : Int), ((n / 256 % 256 : Nat) : Int), ((n / 65536 % 256 : Nat) : Int), ((n / 16777216 % 256 : Nat) : Int)]
/-- A graph's image. -/
def image (g : Gr) : List Int := body g ++ sb (fnv (body g))
theorem body_eq (g : Gr) : body g = head ++ rest g := rfl

end Go.Proofs.YtihjjkoddphmiaaDoor.img

namespace Go.Proofs.YtihjjkoddphmiaaDoor.img
open Go.RowKit Go.Proofs.YtihjjkoddphmiaaDoorW.PrintWords Go.Proofs.YtihjjkoddphmiaaDoorW.PrintLast Go.Proofs.YtihjjkoddphmiaaDoorW.PrintMore Go.Proofs.YtihjjkoddphmiaaDoor.PImageRound
set_option linter.unusedVariables false
set_option linter.unusedSimpArgs false

end Go.Proofs.YtihjjkoddphmiaaDoor.img

namespace Go.Proofs.YtihjjkoddphmiaaDoor.img
open Go.RowKit Go.Proofs.YtihjjkoddphmiaaDoorW.PrintWords Go.Proofs.YtihjjkoddphmiaaDoorW.PrintMore Go.Proofs.YtihjjkoddphmiaaDoor.PImageRound
set_option linter.unusedVariables false
set_option linter.unusedSimpArgs false

end Go.Proofs.YtihjjkoddphmiaaDoor.img

namespace Go.Proofs.YtihjjkoddphmiaaDoor.img
open Go.RowKit Go.Proofs.YtihjjkoddphmiaaDoorW.PrintWords Go.Proofs.YtihjjkoddphmiaaDoorW.PrintLast Go.Proofs.YtihjjkoddphmiaaDoorW.PrintMore Go.Proofs.YtihjjkoddphmiaaDoor.PImageRound
set_option linter.unusedVariables false
set_option linter.unusedSimpArgs false

section
variable {σ α : Type}
end
/-- What is read of a whole graph. -/
structure Fits (n : Nat) (g : Gr) : Prop where
  objs : g.objs.length ≤ n
  slots : g.slots.length ≤ n
  handles : g.handles.length ≤ n
  queue : g.queue.length ≤ n
  obj : ∀ o ∈ g.objs, o.f3.length ≤ n ∧ o.f4.length ≤ n
  frames : ∀ fr ∈ g.slots, fr.length ≤ n ∧ ∀ f ∈ fr, f.length ≤ n
  next : 0 ≤ g.next ∧ g.next ≤ 4611686018427387905
  words : Words g
/-- The registry is told of the objects. -/
def whole (g : Gr) : Gr := { g with registry := finals g.objs }
theorem Fits.tame {n : Nat} {g : Gr} (h : Fits n g) (hn : n ≤ 1000000) : Tame (whole g) := by
  have h1 := h.objs
  have h2 := h.slots
  have h3 := h.handles
  have h4 := h.queue
  have h5 := finalsFrom_len g.objs 0
  exact ⟨⟨by show g.objs.length ≤ _; omega, by show g.slots.length ≤ _; omega, fun fr hf => by have := (h.frames fr hf).1; omega, fun fr hf f hff => by have := (h.frames fr hf).2 f hff; omega, by show g.handles.length ≤ _; omega, by show (finals g.objs).length ≤ _; unfold finals; omega, by show g.queue.length ≤ _; omega⟩,
    fun o ho => by have := h.obj o ho; omega⟩
end Go.Proofs.YtihjjkoddphmiaaDoor.img

namespace Go.Proofs.YtihjjkoddphmiaaDoor.img
open Go.RowKit Go.Proofs.YtihjjkoddphmiaaDoorW.PrintWords Go.Proofs.YtihjjkoddphmiaaDoorW.PrintLast Go.Proofs.YtihjjkoddphmiaaDoorW.PrintMore Go.Proofs.YtihjjkoddphmiaaDoor.PImageRound
set_option linter.unusedVariables false
set_option linter.unusedSimpArgs false

/-- A graph that was handed back. -/
structure Got (w w' : World) (g : Gr) (v0 v1 v2 v3 v4 : Value) : Prop where
  r0 : k62.R 62 w' w.heap.size (fun _ => True) v0 g.objs
  r1 : (Kd.slice 24 (Kd.slice 3 (Kd.int .i64))).R 31 w' w.heap.size (fun _ => True) v1 g.slots
  r2 : (Kd.int .i64).R 3 w' w.heap.size (fun _ => True) v2 g.handles
  r3 : (Kd.int .i64).R 3 w' w.heap.size (fun _ => True) v3 g.registry
  r4 : (Kd.int .i64).R 3 w' w.heap.size (fun _ => True) v4 g.queue
/-- The results' variables. -/
structure RV (w : World) (wi : World) : Prop where
  bel : Below w.heap.size w wi
  blk : ∃ cs, wi.heap[w.heap.size]? = some (.cells cs 27 (0, 0)) ∧ cs.size = 6
  at_ : wi.heap[w.heap.size + 1]? = some (.cells #[.int .i64 0] 3 (0, 0))
  er : wi.heap[w.heap.size + 1 + 1]? = some (.cells #[.int .i64 0] 40 (0, 0))
theorem RV.below {w wi wj : World} (h : RV w wi) (hb : Below wi.heap.size wi wj) : RV w wj := by
  obtain ⟨cs, h1, h2⟩ := h.blk
  exact ⟨below_step h.bel hb, ⟨cs, blk_below h1 hb, h2⟩, blk_below h.at_ hb, blk_below h.er hb⟩

theorem RV.kept {w wi wj : World} {S : Nat → Prop} (h : RV w wi) (hb : Below w.heap.size w wj) (hk : Kept wi wj S) (h1 : ¬ S (w.heap.size + 1)) (h2 : ¬ S (w.heap.size + 1 + 1)) (hg : ∃ cs, wj.heap[w.heap.size]? = some (.cells cs 27 (0, 0)) ∧ cs.size = 6) : RV w wj :=
  ⟨hb, hg, blk_kept h.at_ hk h1, blk_kept h.er hk h2⟩
end Go.Proofs.YtihjjkoddphmiaaDoor.img

namespace Go.Proofs.YtihjjkoddphmiaaDoor.img
open Go.RowKit Go.Proofs.YtihjjkoddphmiaaDoorW.PrintWords Go.Proofs.YtihjjkoddphmiaaDoorW.PrintLast Go.Proofs.YtihjjkoddphmiaaDoorW.PrintMore Go.Proofs.YtihjjkoddphmiaaDoor.PImageRound
set_option linter.unusedVariables false
set_option linter.unusedSimpArgs false

theorem sb_len (n : Nat) : (sb n).length = 4 := rfl
theorem image_len (g : Gr) : (image g).length = (body g).length + 4 := by unfold image; rw [List.length_append, sb_len]
/-- A place in the bytes, and an error that is one. -/
def Fine {α : Type} (n : Nat) (r : Res α) : Prop :=
  match r with
  | .ok _ p => p ≤ n
  | .bad q c => q ≤ n ∧ 160 ≤ c
theorem Fine.bind {α β : Type} {n : Nat} {r : Res α} {f : α → Nat → Res β} (h : Fine n r) (k : ∀ a p, p ≤ n → Fine n (f a p)) : Fine n (r.bind f) := by
  cases r with
  | ok a p => exact k a p h
  | bad q c => exact h
section
variable {σ α : Type}
end
end Go.Proofs.YtihjjkoddphmiaaDoor.img

namespace Go.Proofs.YtihjjkoddphmiaaDoor.img
open Go.RowKit Go.Proofs.YtihjjkoddphmiaaDoorW.PrintWords Go.Proofs.YtihjjkoddphmiaaDoorW.PrintLast Go.Proofs.YtihjjkoddphmiaaDoorW.PrintMore Go.Proofs.YtihjjkoddphmiaaDoor.PImageRound
set_option linter.unusedVariables false
set_option linter.unusedSimpArgs false

def sumF (l : List (List Int)) : Nat := (l.map List.length).sum
def sumS (l : List (List (List Int))) : Nat := (l.map fun fr => fr.length + sumF fr).sum
def sumO (l : List S62) : Nat := (l.map fun o => o.f3.length + o.f4.length).sum
theorem sumF_drop (l : List (List Int)) (i : Nat) (h : i < l.length) : sumF (l.drop i) = (l.getD i []).length + sumF (l.drop (i + 1)) := by
  rw [drop_get l i [] h]; rfl
theorem sumS_drop (l : List (List (List Int))) (i : Nat) (h : i < l.length) : sumS (l.drop i) = (l.getD i []).length + sumF (l.getD i []) + sumS (l.drop (i + 1)) := by
  rw [drop_get l i [] h]; rfl
theorem sumO_drop (l : List S62) (i : Nat) (h : i < l.length) : sumO (l.drop i) = (l.getD i z62).f3.length + (l.getD i z62).f4.length + sumO (l.drop (i + 1)) := by
  rw [drop_get l i z62 h]; rfl

theorem size_l2 (g : Gr) (hr : Roomy g) (t : Nat) (ht : t < g.slots.length) (X : Nat)
    (hP : ∀ n : Int, 0 ≤ n → n ≤ 1000000000000000000 → ∃ r, Ev (fun k => middenlaw16_small.l1 k n ((t : Int) + 1) g.objs g.slots g.handles g.registry g.queue g.next) r ∧ (r = true → n + X ≤ 16384)) :
    ∀ (d i : Nat) (n : Int), (g.slots.getD t []).length - i = d → i ≤ (g.slots.getD t []).length → 0 ≤ n → n ≤ 1000000000000000000 →
      ∃ r, Ev (fun k => middenlaw16_small.l2 k n (t : Int) (i : Int) g.objs g.slots g.handles g.registry g.queue g.next) r ∧ (r = true → n + sumF ((g.slots.getD t []).drop i) + X ≤ 16384) := by
  have hL5 : rd_L5 g.slots (t : Int) = g.slots.getD t [] := by simp [rd_L5]
  have hfr := hr.frames _ (get_mem (d := []) ht)
  have hsl := hr.slots
  intro d
  induction d with
  | zero =>
    intro i n hd hi h0 h1
    have e : i = (g.slots.getD t []).length := by omega
    obtain ⟨r, he, hr1⟩ := hP n h0 (by omega)
    refine ⟨r, Ev.step (fun k => ?_) he, fun h => ?_⟩
    · simp only [middenlaw16_small.l2]
      rw [if_pos (by omega), if_pos (by omega), hL5, if_neg (by omega), wrap_small (by omega)]
    · rw [e, List.drop_length]
      have := hr1 h
      show n + ((0 : Nat) : Int) + X ≤ 16384
      omega
  | succ d ih =>
    intro i n hd hi h0 h1
    have hlt : i < (g.slots.getD t []).length := by omega
    by_cases hn : n ≤ 16384
    · have hfl := hfr.2 _ (get_mem (d := []) hlt)
      have hL2 : rd_L2 (g.slots.getD t []) (i : Int) = (g.slots.getD t []).getD i [] := by simp [rd_L2]
      obtain ⟨r, he, hr1⟩ := ih (i + 1) (n + ((g.slots.getD t []).getD i []).length) (by omega) (by omega) (by omega) (by omega)
      refine ⟨r, Ev.step (fun k => ?_) he, fun h => ?_⟩
      · simp only [middenlaw16_small.l2]
        rw [if_pos (by omega), if_pos (by omega), hL5, if_pos (by omega), if_pos hn, if_pos (by omega), hL2, wrap_small (by omega), wrap_small (by omega)]
        rfl
      · have h2 := hr1 h
        rw [sumF_drop _ i hlt]
        omega
    · obtain ⟨r, he, hr1⟩ := hP n h0 (by omega)
      refine ⟨r, Ev.step (fun k => ?_) he, fun h => absurd (hr1 h) (by omega)⟩
      simp only [middenlaw16_small.l2]
      rw [if_pos (by omega), if_pos (by omega), hL5, if_pos (by omega), if_neg hn, wrap_small (by omega)]
theorem size_l1 (g : Gr) (hr : Roomy g) : ∀ (d t : Nat) (n : Int), g.slots.length - t = d → t ≤ g.slots.length → 0 ≤ n → n ≤ 1000000000000000000 →
    ∃ r, Ev (fun k => middenlaw16_small.l1 k n (t : Int) g.objs g.slots g.handles g.registry g.queue g.next) r ∧ (r = true → n + sumS (g.slots.drop t) ≤ 16384) := by
  intro d
  induction d with
  | zero =>
    intro t n hd ht h0 h1
    have e : t = g.slots.length := by omega
    refine ⟨decide (n ≤ 16384), ?_, fun h => by rw [e, List.drop_length]; show n + ((0 : Nat) : Int) ≤ 16384; have := of_decide_eq_true h; omega⟩
    refine Ev.step (f := fun k => middenlaw16_small.j3 k n (t : Int) false g.objs g.slots g.handles g.registry g.queue g.next) (fun k => ?_) (Ev.step (f := fun _ => some (decide (n ≤ 16384))) (fun k => ?_) (Ev.now _))
    · simp only [middenlaw16_small.l1]
      rw [if_neg (by omega)]
    · simp [middenlaw16_small.j3]
  | succ d ih =>
    intro t n hd ht h0 h1
    have hlt : t < g.slots.length := by omega
    by_cases hn : n ≤ 16384
    · have hL5 : rd_L5 g.slots (t : Int) = g.slots.getD t [] := by simp [rd_L5]
      have hfr := hr.frames _ (get_mem (d := []) hlt)
      obtain ⟨r, he, hr1⟩ := size_l2 g hr t hlt (sumS (g.slots.drop (t + 1))) (fun n' h0' h1' => ih (t + 1) n' (by omega) (by omega) h0' h1') (g.slots.getD t []).length 0 (n + (g.slots.getD t []).length) (by omega) (by omega) (by omega) (by omega)
      refine ⟨r, Ev.step (f := fun k => middenlaw16_small.j3 k n (t : Int) true g.objs g.slots g.handles g.registry g.queue g.next) (fun k => ?_) (Ev.step (fun k => ?_) he), fun h => ?_⟩
      · simp only [middenlaw16_small.l1]
        rw [if_pos (by omega), decide_eq_true hn]
      · simp only [middenlaw16_small.j3]
        rw [if_pos trivial, if_pos (by omega), if_pos (by omega), hL5, wrap_small (by omega)]
        rfl
      · rw [sumS_drop _ t hlt]
        have h2 := hr1 h
        rw [List.drop_zero] at h2
        omega
    · refine ⟨false, Ev.step (f := fun k => middenlaw16_small.j3 k n (t : Int) false g.objs g.slots g.handles g.registry g.queue g.next) (fun k => ?_) (Ev.step (f := fun _ => some false) (fun k => ?_) (Ev.now _)), fun h => (by cases h)⟩
      · simp only [middenlaw16_small.l1]
        rw [if_pos (by omega), decide_eq_false hn]
      · simp [middenlaw16_small.j3, hn]
theorem size_l0 (g : Gr) (hr : Roomy g) : ∀ (d i : Nat) (n : Int), g.objs.length - i = d → i ≤ g.objs.length → 0 ≤ n → n ≤ 1000000000000000000 →
    ∃ r, Ev (fun k => middenlaw16_small.l0 k n (i : Int) g.objs g.slots g.handles g.registry g.queue g.next) r ∧ (r = true → n + sumO (g.objs.drop i) + sumS g.slots ≤ 16384) := by
  have hol := hr.objs
  have hj : ∀ (n : Int), 0 ≤ n → n ≤ 1000000000000000000 → ∃ r, Ev (fun k => middenlaw16_small.j1 k n g.objs g.slots g.handles g.registry g.queue g.next) r ∧ (r = true → n + sumS g.slots ≤ 16384) := by
    intro n h0 h1
    obtain ⟨r, he, h2⟩ := size_l1 g hr g.slots.length 0 n (by omega) (by omega) h0 (by omega)
    exact ⟨r, Ev.step (fun k => by simp only [middenlaw16_small.j1]; rfl) he, fun h => by simpa using h2 h⟩
  intro d
  induction d with
  | zero =>
    intro i n hd hi h0 h1
    have e : i = g.objs.length := by omega
    obtain ⟨r, he, h2⟩ := hj n h0 h1
    refine ⟨r, Ev.step (fun k => ?_) he, fun h => by rw [e, List.drop_length]; have := h2 h; show n + ((0 : Nat) : Int) + _ ≤ 16384; omega⟩
    simp only [middenlaw16_small.l0]
    rw [if_neg (by omega)]
  | succ d ih =>
    intro i n hd hi h0 h1
    have hlt : i < g.objs.length := by omega
    by_cases hn : n ≤ 16384
    · have hT : rd_T62 g.objs (i : Int) = g.objs.getD i z62 := by simp [rd_T62]
      have hob := hr.obj _ (get_mem (d := z62) hlt)
      obtain ⟨r, he, h2⟩ := ih (i + 1) (n + (g.objs.getD i z62).f3.length + (g.objs.getD i z62).f4.length) (by omega) (by omega) (by omega) (by omega)
      refine ⟨r, Ev.step (fun k => ?_) he, fun h => ?_⟩
      · simp only [middenlaw16_small.l0]
        rw [if_pos (by omega), if_pos hn, if_pos (by omega), hT, wrap_small (i := n + _) (by omega), wrap_small (by omega), wrap_small (by omega)]
        rfl
      · have h3 := h2 h
        rw [sumO_drop _ i hlt]
        omega
    · obtain ⟨r, he, h2⟩ := hj n h0 h1
      refine ⟨r, Ev.step (fun k => ?_) he, fun h => absurd (h2 h) (by omega)⟩
      simp only [middenlaw16_small.l0]
      rw [if_pos (by omega), if_neg hn]

/-- All that a graph has. -/
def total (g : Gr) : Nat := g.objs.length + g.slots.length + g.handles.length + g.registry.length + g.queue.length + sumO g.objs + sumS g.slots
theorem mem_sum {α : Type} (f : α → Nat) : ∀ {l : List α} {x : α}, x ∈ l → f x ≤ (l.map f).sum
  | [], x, h => by simp at h
  | a :: r, x, h => by
    simp only [List.map_cons, List.sum_cons]
    rcases List.mem_cons.1 h with rfl | h
    · omega
    · have := mem_sum f h
      omega
theorem total_near {g : Gr} (h : total g ≤ 16384) : Near g := by
  unfold total at h
  refine ⟨by omega, by omega, by omega, by omega, by omega, fun o ho => ?_, fun fr hf => ?_⟩
  · have : o.f3.length + o.f4.length ≤ sumO g.objs := mem_sum (fun o : S62 => o.f3.length + o.f4.length) ho
    omega
  · have : fr.length + sumF fr ≤ sumS g.slots := mem_sum (fun fr : List (List Int) => fr.length + sumF fr) hf
    refine ⟨by omega, fun f hff => ?_⟩
    have h2 : f.length ≤ sumF fr := mem_sum List.length hff
    omega
theorem size_ev (g : Gr) (hr : Roomy g) : ∃ r, Ev (fun k => middenlaw16_small.f k g.objs g.slots g.handles g.registry g.queue g.next) r ∧ (r = true → total g ≤ 16384) := by
  have h1 := hr.objs
  have h2 := hr.slots
  have h3 := hr.handles
  have h4 := hr.registry
  have h5 := hr.queue
  obtain ⟨r, he, h⟩ := size_l0 g hr g.objs.length 0 ((g.objs.length : Int) + g.slots.length + g.handles.length + g.registry.length + g.queue.length) (by omega) (by omega) (by omega) (by omega)
  refine ⟨r, ?_, fun e => ?_⟩
  · have hc : ∀ k, middenlaw16_small.f k g.objs g.slots g.handles g.registry g.queue g.next = middenlaw16_small.l0 k ((g.objs.length : Int) + g.slots.length + g.handles.length + g.registry.length + g.queue.length) ((0 : Nat) : Int) g.objs g.slots g.handles g.registry g.queue g.next := by
      intro k
      unfold middenlaw16_small.f
      rw [wrap_small (i := (g.objs.length : Int) + g.slots.length) (by omega), wrap_small (i := (g.objs.length : Int) + g.slots.length + g.handles.length) (by omega), wrap_small (i := (g.objs.length : Int) + g.slots.length + g.handles.length + g.registry.length) (by omega), wrap_small (by omega)]
      rfl
    exact Ev.congr hc he
  · have := h e
    rw [List.drop_zero] at this
    unfold total
    omega

theorem flat_sum {α : Type} {E : α → List Int} (f : α → Nat) : ∀ {l : List α}, (∀ x ∈ l, (E x).length ≤ f x) → (l.flatMap E).length ≤ (l.map f).sum
  | [], _ => by simp
  | a :: r, h => by
    have h1 := h a (by simp)
    have h2 := flat_sum f (l := r) (fun x hx => h x (by simp [hx]))
    simp only [List.flatMap_cons, List.length_append, List.map_cons, List.sum_cons]
    omega
theorem encL_ints {more : Int} {l : List Int} (hl : l.length ≤ 131072) (h : ∀ x ∈ l, x + more < 18446744073709551616) : (encL (encI more) l).length ≤ 10 + l.length * 10 :=
  encL_len (by omega) (fun x hx => encI_ten (h x hx))
theorem sum_map_ten {α : Type} (f : α → Nat) (l : List α) : (l.map fun x => 10 + f x * 10).sum = l.length * 10 + (l.map f).sum * 10 := by
  induction l with
  | nil => rfl
  | cons a r ih => simp only [List.map_cons, List.sum_cons, List.length_cons, ih]; omega
theorem encOs_size : ∀ (l : List S62) (last : Int), allS (fun _ o => o.f0) okW last l → (∀ o ∈ l, o.f3.length ≤ 131072 ∧ o.f4.length ≤ 131072) → (encOs last l).length ≤ l.length * 50 + sumO l * 10
  | [], _, _, _ => by simp [encOs, sumO]
  | a :: r, last, ha, hl => by
    have h1 := encOs_size r a.f0 ha.2 (fun o ho => hl o (by simp [ho]))
    obtain ⟨⟨a1, a2, a3⟩, b, c, d, e⟩ := ha.1
    have h2 := hl a (by simp)
    have e1 : (enc (a.f0 - last).toNat).length ≤ 10 := enc_ten (by omega)
    have e2 : (encI 0 a.f1).length ≤ 10 := encI_ten (by omega)
    have e3 : (encI 0 a.f2).length ≤ 10 := encI_ten (by omega)
    have e4 := encL_ints (more := 0) (l := a.f3) h2.1 (fun x hx => by have := d.2 x hx; omega)
    have e5 := encL_ints (more := 0) (l := a.f4) h2.2 (fun x hx => by have := e.2 x hx; omega)
    rw [encOs]
    have hs : sumO (a :: r) = a.f3.length + a.f4.length + sumO r := rfl
    simp only [encO, List.length_append, List.length_cons, hs]
    omega
/-- A small graph's image. -/
theorem Good.size {g : Gr} (h : Good g) (ht : total g ≤ 16384) : (image g).length ≤ 900000 := by
  have hn := total_near ht
  have h1 := encOs_size g.objs 0 h.objs hn.obj
  have h2 : (encL (encL (encL (encI 0))) g.slots).length ≤ 10 + (g.slots.length * 10 + sumS g.slots * 10) := by
    have hf := flat_sum (E := encL (encL (encI 0))) (fun fr : List (List Int) => 10 + (fr.length + sumF fr) * 10) (l := g.slots) (fun fr hf => by
      obtain ⟨c1, c2⟩ := h.slots.2 fr hf
      have hf2 := flat_sum (E := encL (encI 0)) (fun f : List Int => 10 + f.length * 10) (l := fr) (fun f hff => encL_ints (by have := (c2 f hff).1; omega) (fun x hx => by have := (c2 f hff).2 x hx; omega))
      rw [sum_map_ten] at hf2
      have e0 : (enc fr.length).length ≤ 10 := enc_ten (by omega)
      have hs : sumF fr = (fr.map List.length).sum := rfl
      show (encL (encL (encI 0)) fr).length ≤ 10 + (fr.length + sumF fr) * 10
      unfold encL
      rw [List.length_append]
      unfold encL at hf2
      omega)
    rw [sum_map_ten] at hf
    have e0 : (enc g.slots.length).length ≤ 10 := enc_ten (by have := hn.slots; omega)
    have hs : sumS g.slots = (g.slots.map fun fr => fr.length + sumF fr).sum := rfl
    unfold encL
    rw [List.length_append]
    unfold encL at hf
    omega
  have h3 := encL_ints (more := 1) (l := g.handles) (by have := hn.handles; omega) (fun x hx => by have := h.handles.2 x hx; omega)
  have h4 := encL_ints (more := 0) (l := g.queue) (by have := hn.queue; omega) (fun x hx => by have := h.queue x hx; omega)
  have h5 : (enc g.next.toNat).length ≤ 10 := enc_ten (by have := h.next; omega)
  have h6 : (enc g.objs.length).length ≤ 10 := enc_ten (by have := hn.objs; omega)
  rw [image_len, body_eq, List.length_append]
  have h7 : head.length = 4 := rfl
  unfold rest
  unfold total at ht
  simp only [List.length_append, h7]
  omega
end Go.Proofs.YtihjjkoddphmiaaDoor.img

namespace Go.Proofs.YtihjjkoddphmiaaDoor.img
open Go.RowKit Go.Proofs.YtihjjkoddphmiaaDoorW.PrintWords Go.Proofs.YtihjjkoddphmiaaDoorW.PrintLast Go.Proofs.YtihjjkoddphmiaaDoorW.PrintMore Go.Proofs.YtihjjkoddphmiaaDoor.PImageRound
set_option linter.unusedVariables false
set_option linter.unusedSimpArgs false

/-- The opening example's graph. -/
def gk : Gr := ⟨[], [[]], [], [], [], 1⟩
set_option maxHeartbeats 8000000 in
set_option maxRecDepth 100000 in
/-- The law's num. -/
theorem num_is (a : Int) (w : World) : Calls Tryd.prog 12 #[.int .i64 a] w fun e w' => e = .returned (.int .i64 a) ∧ w = w' := by
  go_enter Tryd.func12, Tryd.ntmps12
  go_wp2
  go_ret
  exact ⟨by first | rfl | (simp; done), by first | rfl | (simp; done)⟩

end Go.Proofs.YtihjjkoddphmiaaDoor.img
