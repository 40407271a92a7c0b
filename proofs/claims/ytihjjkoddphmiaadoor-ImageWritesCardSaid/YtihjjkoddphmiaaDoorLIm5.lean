import Derived.Test.YtihjjkoddphmiaaDoorLIm2
import Derived.Test.YtihjjkoddphmiaaDoorLIm4
import Derived.Test.YtihjjkoddphmiaaDoorLIm3
import Derived.Test.YtihjjkoddphmiaaDoorLIm1
import Derived.Test.YtihjjkoddphmiaaDoorLPImageRoundx1
import Derived.Test.YtihjjkoddphmiaaDoorLPImageRoundx6
import Derived.Laws.BitsLemmas
import Derived.Defers
import Derived.Recover
import Derived.RegionTactic
namespace Go.Proofs.YtihjjkoddphmiaaDoor.img
open Go.RowKit Go.Proofs.YtihjjkoddphmiaaDoorW.PrintWords Go.Proofs.YtihjjkoddphmiaaDoorW.PrintMore Go.Proofs.YtihjjkoddphmiaaDoor.PImageRound
set_option linter.unusedVariables false
set_option linter.unusedSimpArgs false

/-- The walk over a whole graph with a reader: where it stands. -/
structure RA (w0 w : World) (gr gg gq gf c : Nat) (B : Option Addr) (bs : List Int) (q : Nat) (cx : Array Value) (wi : World) : Prop where
  rs : RS w0 w gr gg 27 c B bs (fun _ => False) q cx wi
  q : wi.heap[gq]? = some (.cells #[.iface 91 (.pointer (some ⟨gr, 0, none⟩))] 111 (0, 0))
  f : wi.heap[gf]? = some (.cells #[.func (.func 66) #[] #[.pointer (some ⟨gq, 0, none⟩)]] 114 (0, 0))
section
variable {w0 w wi wj : World} {gr gg gq gf c q q' : Nat} {B : Option Addr} {bs : List Int} {S : Nat → Prop} {cx cx' : Array Value}
theorem RA.below (h : RA w0 w gr gg gq gf c B bs q cx wi) (hb : Below wi.heap.size wi wj) : RA w0 w gr gg gq gf c B bs q cx wj := ⟨h.rs.below hb, blk_below h.q hb, blk_below h.f hb⟩
theorem RA.step (h : RA w0 w gr gg gq gf c B bs q cx wi) (hr : Rr w0 gr B c bs q' wj) (hk : Kept wi wj S) (hS : ∀ k, S k → k = gr ∨ k = gg ∨ w.heap.size ≤ k) (hq : ¬ S gq) (hf : ¬ S gf) (hb : wj.heap[gg]? = some (.cells cx' 27 (0, 0))) : RA w0 w gr gg gq gf c B bs q' cx' wj :=
  ⟨h.rs.step hr hk (fun k e => (hS k e).elim (fun e => .inl (.inl e)) (fun e => e.elim (fun e => .inl (.inr (.inl e))) .inr)) hb, blk_kept h.q hk hq, blk_kept h.f hk hf⟩
theorem RA.cq (h : RA w0 w gr gg gq gf c B bs q cx wi) : wi.cell? ⟨gq, 0, none⟩ = some (.iface 91 (.pointer (some ⟨gr, 0, none⟩))) := (blk_cell h.q 0).trans rfl
theorem RA.cf (h : RA w0 w gr gg gq gf c B bs q cx wi) : wi.cell? ⟨gf, 0, none⟩ = some (.func (.func 66) #[] #[.pointer (some ⟨gq, 0, none⟩)]) := (blk_cell h.f 0).trans rfl
end
end Go.Proofs.YtihjjkoddphmiaaDoor.img

namespace Go.Proofs.YtihjjkoddphmiaaDoor.img
open Go.RowKit Go.Proofs.YtihjjkoddphmiaaDoorW.PrintWords Go.Proofs.YtihjjkoddphmiaaDoorW.PrintLast Go.Proofs.YtihjjkoddphmiaaDoorW.PrintMore Go.Proofs.YtihjjkoddphmiaaDoor.PImageRound
set_option linter.unusedVariables false
set_option linter.unusedSimpArgs false

theorem wraps_u32 (n : Int) (h₀ : 0 ≤ n) (h₁ : n < 2 ^ 32) : IntKind.u32.wrap n = n := by
  rw [IntKind.wrap_u32]
  omega
theorem xor_u32 (a b : Nat) (ha : a < 4294967296) (hb : b < 4294967296) : bits BinOp.xor IntKind.u32 (a : Int) (b : Int) = ((a ^^^ b : Nat) : Int) := by
  have hlt : a ^^^ b < 4294967296 := by
    have : (4294967296 : Nat) = 2 ^ 32 := by decide
    rw [this] at ha hb ⊢
    exact Nat.xor_lt_two_pow ha hb
  unfold bits
  have e32 : IntKind.u32.bits = 32 := rfl
  have h : ((BitVec.ofInt IntKind.u32.bits (a : Int)) ^^^ (BitVec.ofInt IntKind.u32.bits (b : Int))).toNat = a ^^^ b := by
    rw [BitVec.toNat_xor]
    simp only [BitVec.toNat_ofInt, e32]
    have e1 : ((a : Int) % ((2 ^ 32 : Nat) : Int)).toNat = a := by
      have : ((2 ^ 32 : Nat) : Int) = 4294967296 := by decide
      rw [this]
      omega
    have e2 : ((b : Int) % ((2 ^ 32 : Nat) : Int)).toNat = b := by
      have : ((2 ^ 32 : Nat) : Int) = 4294967296 := by decide
      rw [this]
      omega
    rw [e1, e2]
  simp only [h]
  exact wraps_u32 _ (by omega) (by omega)
theorem sum_l (l : List Int) (hb : Bytes l) (hl : l.length ≤ 1000000000000) : ∀ (d i s : Nat), l.length - i = d → i ≤ l.length → s < 4294967296 → Ev (fun k => image_sum.l0 k (s : Int) l (l.length : Int) (i : Int)) ((fnvFrom s (l.drop i) : Nat) : Int) := by
  intro d
  induction d with
  | zero =>
    intro i s hd hi hs
    have e : i = l.length := by omega
    subst e
    refine Ev.step (f := fun _ => some (s : Int)) (fun k => ?_) (by simpa [fnvFrom] using Ev.now (s : Int))
    simp only [image_sum.l0]
    rw [if_neg (by omega)]
  | succ d ih =>
    intro i s hd hi hs
    have hlt : i < l.length := by omega
    rw [drop_get l i 0 hlt]
    have hrd : rd l (i : Int) = l.getD i 0 := by simp [rd]
    obtain ⟨hx, hc⟩ := byte_at hb hlt
    have hf : fnvFrom s (l.getD i 0 :: l.drop (i + 1)) = fnvFrom (fstep s (l.getD i 0).toNat) (l.drop (i + 1)) := rfl
    rw [hf]
    have := ih (i + 1) (fstep s (l.getD i 0).toNat) (by omega) (by omega) (fstep_lt _ _)
    refine Ev.step (fun k => ?_) this
    simp only [image_sum.l0]
    rw [if_pos (by omega), if_pos (by omega), if_pos (by omega), hrd, wrap_small (by omega)]
    have e : (bits BinOp.xor IntKind.u32 (s : Int) ((l.getD i 0) % 4294967296)) * 16777619 % 4294967296 = ((fstep s (l.getD i 0).toNat : Nat) : Int) := by
      have e1 : (l.getD i 0) % 4294967296 = (((l.getD i 0).toNat : Nat) : Int) := by omega
      rw [e1, xor_u32 s _ hs (by omega)]
      unfold fstep
      simp
    rw [e]
    rfl
theorem sum_ev (l : List Int) (hb : Bytes l) (hl : l.length ≤ 1000000000000) : Ev (fun k => image_sum.f k l) ((fnv l : Nat) : Int) := by
  have := sum_l l hb hl l.length 0 2166136261 (by omega) (by omega) (by omega)
  simpa [image_sum.f, fnv, fnvFrom] using this

/-- A graph whose lists are all short. -/
structure Near (g : Gr) : Prop where
  objs : g.objs.length ≤ 131072
  slots : g.slots.length ≤ 131072
  handles : g.handles.length ≤ 131072
  registry : g.registry.length ≤ 131072
  queue : g.queue.length ≤ 131072
  obj : ∀ o ∈ g.objs, o.f3.length ≤ 131072 ∧ o.f4.length ≤ 131072
  frames : ∀ fr ∈ g.slots, fr.length ≤ 131072 ∧ ∀ f ∈ fr, f.length ≤ 131072
theorem Near.tame {g : Gr} (h : Near g) : Tame g :=
  ⟨⟨Nat.le_trans h.objs (by decide), Nat.le_trans h.slots (by decide), fun fr hf => Nat.le_trans (h.frames fr hf).1 (by decide), fun fr hf f hff => Nat.le_trans ((h.frames fr hf).2 f hff) (by decide), Nat.le_trans h.handles (by decide), Nat.le_trans h.registry (by decide), Nat.le_trans h.queue (by decide)⟩,
    fun o ho => ⟨Nat.le_trans (h.obj o ho).1 (by decide), Nat.le_trans (h.obj o ho).2 (by decide)⟩⟩
/-- Each list takes what a machine's memory may. -/
structure Roomy (g : Gr) : Prop where
  objs : g.objs.length ≤ 140737488355328
  slots : g.slots.length ≤ 140737488355328
  handles : g.handles.length ≤ 140737488355328
  registry : g.registry.length ≤ 140737488355328
  queue : g.queue.length ≤ 140737488355328
  obj : ∀ o ∈ g.objs, o.f3.length ≤ 140737488355328 ∧ o.f4.length ≤ 140737488355328
  frames : ∀ fr ∈ g.slots, fr.length ≤ 140737488355328 ∧ ∀ f ∈ fr, f.length ≤ 140737488355328

end Go.Proofs.YtihjjkoddphmiaaDoor.img

namespace Go.Proofs.YtihjjkoddphmiaaDoor.img
open Go.RowKit Go.Proofs.YtihjjkoddphmiaaDoorW.PrintWords Go.Proofs.YtihjjkoddphmiaaDoorW.PrintLast Go.Proofs.YtihjjkoddphmiaaDoorW.PrintMore Go.Proofs.YtihjjkoddphmiaaDoor.PImageRound
set_option linter.unusedVariables false
set_option linter.unusedSimpArgs false

/-- The raw words are of their kind. -/
def Words (g : Gr) : Prop := ∀ o ∈ g.objs, ∀ x ∈ o.f4, 0 ≤ x ∧ x < 18446744073709551616

theorem chk_zero {k p r s : Int} (h : chk k p r s = 0) : 1 ≤ k ∧ k < 5 ∧ 0 ≤ s ∧ s ≤ 255 := by
  unfold chk at h
  by_cases h1 : k < 1 ∨ 5 ≤ k ∨ p < need k
  · rw [if_pos h1] at h; omega
  by_cases h2 : 4095 < p
  · rw [if_neg h1, if_pos h2] at h; omega
  by_cases h3 : 65535 < r
  · rw [if_neg h1, if_neg h2, if_pos h3] at h; omega
  by_cases h4 : s < 0 ∨ 255 < s
  · rw [if_neg h1, if_neg h2, if_neg h3, if_pos h4] at h; omega
  omega
theorem objs_okW {n next : Int} (hn : n ≤ 1000000) (hx : next ≤ 4611686018427387905) : ∀ (l : List S62) (last : Int), 0 ≤ last → objsFrom n next last l = true → (∀ o ∈ l, (o.f3.length ≤ 1000000 ∧ o.f4.length ≤ 1000000) ∧ ∀ x ∈ o.f4, 0 ≤ x ∧ x < 18446744073709551616) → allS (fun _ o => o.f0) okW last l
  | [], _, _, _, _ => trivial
  | a :: r, last, h0, h, hl => by
    obtain ⟨h1, h2, h3, h4⟩ := objsFrom_mem h a (by simp)
    obtain ⟨h5, h6⟩ := hl a (by simp)
    obtain ⟨k1, k2, k3, k4⟩ := chk_zero h3
    refine ⟨⟨⟨h0, by omega, by omega⟩, by omega, by omega, ⟨h5.1, fun x hxm => by have := nums_get h4 hxm; omega⟩, h5.2, h6⟩, objs_okW hn hx r a.f0 (by omega) ?_ (fun o ho => hl o (by simp [ho]))⟩
    rw [objsFrom] at h
    by_cases t1 : a.f0 ≤ last
    · rw [if_pos t1] at h; exact absurd h (by decide)
    by_cases t2 : next ≤ a.f0
    · rw [if_neg t1, if_pos t2] at h; exact absurd h (by decide)
    rw [if_neg t1, if_neg t2, if_neg (by rw [h3]; simp), if_pos h4] at h
    exact h
theorem frames_len {n : Int} : ∀ (l : List (List Int)) (s : Int), 0 ≤ s → framesB n s l = true → s + l.length ≤ 4096 ∧ ∀ f ∈ l, f.length ≤ 4096
  | [], s, h0, h => by
    simp only [framesB, decide_eq_true_eq] at h
    exact ⟨by simpa using h, by simp⟩
  | a :: r, s, h0, h => by
    rw [framesB] at h
    by_cases t1 : a.length < 1
    · rw [if_pos t1] at h; exact absurd h (by decide)
    by_cases t2 : numsB n 0 a = true
    · rw [if_neg t1, if_pos t2] at h
      obtain ⟨h1, h2⟩ := frames_len r _ (by omega) h
      refine ⟨by simp only [List.length_cons]; omega, fun f hf => ?_⟩
      rcases List.mem_cons.1 hf with rfl | hf
      · omega
      · exact h2 f hf
    · rw [if_neg t1, if_neg t2] at h; exact absurd h (by decide)

/-- What okB gives. -/
structure Good (g : Gr) : Prop where
  next : 1 ≤ g.next ∧ g.next ≤ 4611686018427387905
  objs : allS (fun _ o => o.f0) okW 0 g.objs
  slots : g.slots.length ≤ 8 ∧ ∀ fr ∈ g.slots, fr.length ≤ 4096 ∧ ∀ f ∈ fr, f.length ≤ 4096 ∧ ∀ x ∈ f, 0 ≤ x ∧ x ≤ 131072
  handles : g.handles.length ≤ 1024 ∧ ∀ x ∈ g.handles, -1 ≤ x ∧ x ≤ 131072
  queue : ∀ x ∈ g.queue, 1 ≤ x ∧ x ≤ 131072
  registry : g.registry = finals g.objs
theorem good_of {g : Gr} (hn : Near g) (hw : Words g) (h : okB g = true) : Good g := by
  unfold okB at h
  by_cases h1 : objsB g = true
  · rw [if_pos h1] at h
    by_cases h2 : holdB g = true
    · obtain ⟨a1, a2⟩ := objsB_mem h1
      obtain ⟨b1, b2, b3, b4, b5⟩ := holdB_mem h2
      have hol := hn.objs
      refine ⟨a1, objs_okW (by omega) (by omega) _ _ (by omega) a2 (fun o ho => ⟨hn.tame.objs o ho, hw o ho⟩), ⟨by omega, fun fr hf => ?_⟩, ⟨by omega, fun x hx => by have := nums_get b3 hx; omega⟩, fun x hx => by have := nums_get b4 hx; omega, b5.symm⟩
      have hfb := slotsB_mem b2 fr hf
      obtain ⟨c1, c2⟩ := frames_len fr 0 (by omega) hfb
      refine ⟨by omega, fun f hff => ⟨c2 f hff, fun x hx => ?_⟩⟩
      have := nums_get (framesB_mem hfb f hff).2 hx
      omega
    · rw [if_neg h2] at h; exact absurd h (by decide)
  · rw [if_neg h1] at h; exact absurd h (by decide)
theorem Good.wok {w0 : World} {L : Lay} {g : Gr} (h : Good g) (hn : Near g) (hr : Rd w0 L g) (h0 : NFO w0 L.A0 g.objs.length) (h1 : NF3 w0 L.A1 g.slots.length) (h2 : NF w0 L.A2 g.handles.length) (h4 : NF w0 L.A4 g.queue.length) : WOk w0 L g :=
  ⟨hr, hn.tame.mild, by have := h.next; omega, h0, h1, h2, h4, h.objs, fun fr hf => ⟨by have := (h.slots.2 fr hf).1; omega, fun f hff => ⟨by have := ((h.slots.2 fr hf).2 f hff).1; omega, fun x hx => by have := ((h.slots.2 fr hf).2 f hff).2 x hx; omega⟩⟩, fun x hx => by have := h.handles.2 x hx; omega, fun x hx => by have := h.queue x hx; omega⟩

theorem encL_len {α : Type} {E : α → List Int} {k : Nat} {l : List α} (hl : l.length < 18446744073709551616) (h : ∀ x ∈ l, (E x).length ≤ k) : (encL E l).length ≤ 10 + l.length * k := by
  have h1 := flat_len h
  have h2 := enc_ten hl
  unfold encL
  rw [List.length_append]
  omega
theorem encOs_len {k : Nat} (hk : k ≤ 131072) : ∀ (l : List S62) (last : Int), allS (fun _ o => o.f0) okW last l → (∀ o ∈ l, o.f3.length ≤ k ∧ o.f4.length ≤ k) → (encOs last l).length ≤ l.length * (50 + 20 * k)
  | [], _, _, _ => by simp [encOs]
  | a :: r, last, ha, hl => by
    have h1 := encOs_len hk r a.f0 ha.2 (fun o ho => hl o (by simp [ho]))
    obtain ⟨⟨a1, a2, a3⟩, b, c, d, e⟩ := ha.1
    have h2 := hl a (by simp)
    have e1 : (enc (a.f0 - last).toNat).length ≤ 10 := enc_ten (by omega)
    have e2 : (encI 0 a.f1).length ≤ 10 := encI_ten (by omega)
    have e3 : (encI 0 a.f2).length ≤ 10 := encI_ten (by omega)
    have e4 := encL_len (E := encI 0) (k := 10) (l := a.f3) (by omega) (fun x hx => encI_ten (by have := d.2 x hx; omega))
    have e5 := encL_len (E := encI 0) (k := 10) (l := a.f4) (by omega) (fun x hx => encI_ten (by have := e.2 x hx; omega))
    rw [encOs]
    simp only [encO, List.length_append, List.length_cons, Nat.add_mul]
    omega
theorem Good.len {g : Gr} (h : Good g) (hn : Near g) : (rest g).length ≤ 400000000000 := by
  have h1 := encOs_len (Nat.le_refl _) g.objs 0 h.objs hn.obj
  have h2 : (encL (encL (encL (encI 0))) g.slots).length ≤ 10 + g.slots.length * (10 + 4096 * (10 + 4096 * 10)) := by
    refine encL_len (by have := hn.slots; omega) (fun fr hf => ?_)
    obtain ⟨c1, c2⟩ := h.slots.2 fr hf
    refine Nat.le_trans (encL_len (k := 10 + 4096 * 10) (by omega) (fun f hff => ?_)) ?_
    · refine Nat.le_trans (encL_len (k := 10) (by have := (c2 f hff).1; omega) (fun x hx => encI_ten (by have := (c2 f hff).2 x hx; omega))) ?_
      have := (c2 f hff).1
      omega
    · have : fr.length * (10 + 4096 * 10) ≤ 4096 * (10 + 4096 * 10) := Nat.mul_le_mul_right _ c1
      omega
  have h3 := encL_len (E := encI 1) (k := 10) (l := g.handles) (by have := hn.handles; omega) (fun x hx => encI_ten (by have := h.handles.2 x hx; omega))
  have h4 := encL_len (E := encI 0) (k := 10) (l := g.queue) (by have := hn.queue; omega) (fun x hx => encI_ten (by have := h.queue x hx; omega))
  have h5 : (enc g.next.toNat).length ≤ 10 := enc_ten (by have := h.next; omega)
  have h6 : (enc g.objs.length).length ≤ 10 := enc_ten (by have := hn.objs; omega)
  have hs := h.slots.1
  have ho := hn.objs
  have hh := h.handles.1
  have hq := hn.queue
  have e1 : g.objs.length * (50 + 20 * 131072) ≤ 131072 * (50 + 20 * 131072) := Nat.mul_le_mul_right _ ho
  unfold rest
  simp only [List.length_append]
  omega
end Go.Proofs.YtihjjkoddphmiaaDoor.img

namespace Go.Proofs.YtihjjkoddphmiaaDoor.img
open Go.RowKit Go.Proofs.YtihjjkoddphmiaaDoorW.PrintWords Go.Proofs.YtihjjkoddphmiaaDoorW.PrintLast Go.Proofs.YtihjjkoddphmiaaDoorW.PrintMore Go.Proofs.YtihjjkoddphmiaaDoor.PImageRound
set_option linter.unusedVariables false
set_option linter.unusedSimpArgs false

theorem R_block {w : World} {g e base : Nat} {k : IntKind} {xs : List Int} (h : w.heap[g]? = some (.cells (encs (Value.int k) xs).toArray e (0, 0))) (hb : base ≤ g) (hl : xs.length ≤ maxLen) : (Kd.int k).R e w base (fun _ => True) (.slice (some ⟨g, 0, none⟩) xs.length xs.length) xs :=
  Kd.R_of_own ⟨by simp [encs], .inr ⟨g, xs.length, _, rfl, hb, h, Nat.le_refl _, hl, by simp [encs], by rw [Nat.mul_one, List.take_of_length_le (by simp [encs])]⟩⟩ (fun _ _ => trivial)

/-- A checksum's bytes. -/
def sb (n : Nat) : List Int := [((n % 256 : Nat) : Int), ((n / 256 % 256 : Nat) : Int), ((n / 65536 % 256 : Nat) : Int), ((n / 16777216 % 256 : Nat) : Int)]
/-- A graph's image. -/
def image (g : Gr) : List Int := body g ++ sb (fnv (body g))
theorem body_eq (g : Gr) : body g = head ++ rest g := rfl

theorem enc_bytes : ∀ n : Nat, Bytes (enc n) := by
  intro n
  induction n using Nat.strongRecOn with
  | ind n ih =>
    intro x hx
    by_cases h : n < 128
    · rw [enc_lt h] at hx
      simp at hx
      omega
    · rw [enc_ge h] at hx
      rcases List.mem_cons.1 hx with rfl | hx
      · omega
      · exact ih (n / 128) (by omega) x hx
theorem Bytes.app {a b : List Int} (h : Bytes a) (k : Bytes b) : Bytes (a ++ b) := fun x hx => (List.mem_append.1 hx).elim (h x) (k x)
theorem encL_bytes {α : Type} {E : α → List Int} (h : ∀ x, Bytes (E x)) (l : List α) : Bytes (encL E l) := by
  unfold encL
  refine (enc_bytes _).app ?_
  intro x hx
  obtain ⟨y, -, hy⟩ := List.mem_flatMap.1 hx
  exact h y x hy
theorem encI_bytes (more n : Int) : Bytes (encI more n) := enc_bytes _
theorem encOs_bytes : ∀ (l : List S62) (last : Int), Bytes (encOs last l)
  | [], _ => by intro x hx; simp [encOs] at hx
  | a :: r, last => by
    rw [encOs]
    unfold encO
    exact (((((enc_bytes _).app (encI_bytes _ _)).app (encI_bytes _ _)).app (encL_bytes (encI_bytes 0) _)).app (encL_bytes (encI_bytes 0) _)).app (encOs_bytes r _)
theorem body_bytes (g : Gr) : Bytes (body g) := by
  unfold body
  refine Bytes.app ?_ ((enc_bytes _).app (((enc_bytes _).app (encOs_bytes _ _)).app ((encL_bytes (encL_bytes (encL_bytes (encI_bytes 0))) _).app ((encL_bytes (encI_bytes 1) _).app (encL_bytes (encI_bytes 0) _)))))
  intro x hx
  simp [head] at hx
  omega
theorem sb_bytes (n : Nat) : Bytes (sb n) := by
  intro x hx
  simp [sb] at hx
  omega

set_option maxHeartbeats 8000000 in
set_option maxRecDepth 100000 in
theorem Write_bad (L : Lay) (g : Gr) (hn : Near g) (w : World) (hR : Rd w L g) (hT : Tabs w) (hok : okB g = false) :
    Calls Tryd.prog 18 #[.agg (gcells L g).toArray] w fun e w' => e = .returned (.tuple #[.slice none 0 0, .int .i64 164]) ∧ Below w.heap.size w w' := by
  obtain ⟨C, hC⟩ : ∃ C : List Value, gcells L g = C := ⟨_, rfl⟩
  have hb : Below w.heap.size w (w.alloc (.cells (gcells L g).toArray 27)) := below_alloc (Below.refl _ _) _
  have HC := Aside0.mk (Check_any L g hn.tame (w.alloc (.cells (gcells L g).toArray 27)) (hR.below hb) (hT.below hb))
  rw [hok] at HC
  have HB := Aside0.mk hb
  rw [hC] at HC HB ⊢
  obtain ⟨v0, v1, v2, v3, v4, v5, rfl⟩ : ∃ v0 v1 v2 v3 v4 v5, C = [v0, v1, v2, v3, v4, v5] := ⟨_, _, _, _, _, _, hC.symm⟩
  clear hC hR hT hok hb
  go_enter Tryd.func18, Tryd.ntmps18
  go_wp2_with (fail)
  refine HC.out.mono ?_
  rintro en w1 ⟨rfl, hb1⟩
  have H1 := Aside0.mk (below_step HB.out hb1)
  clear hb1
  go_wp2
  go_ret2
  exact ⟨rfl, H1.out⟩

set_option maxHeartbeats 8000000 in
set_option maxRecDepth 100000 in
theorem Write_ok (L : Lay) (g : Gr) (hn : Near g) (hwd : Words g) (w : World) (hR : Rd w L g) (hT : Tabs w) (hok : okB g = true) (h0 : NFO w L.A0 g.objs.length) (h1 : NF3 w L.A1 g.slots.length) (h2 : NF w L.A2 g.handles.length) (h4 : NF w L.A4 g.queue.length) :
    Calls Tryd.prog 18 #[.agg (gcells L g).toArray] w fun e w' => ∃ v, e = .returned (.tuple #[v, .int .i64 0]) ∧ (Kd.int .u8).R 5 w' w.heap.size (fun _ => True) v (image g) ∧ Below w.heap.size w w' := by
  have hgood := good_of hn hwd hok
  have hlen := hgood.len hn
  have HWO := Aside0.mk (hgood.wok hn hR h0 h1 h2 h4)
  obtain ⟨k, hk⟩ := (sum_ev (body g) (body_bytes g) (by rw [body_eq, List.length_append]; simp [head]; omega)).rounds
  have HK := Aside0.mk hk
  have hbl : (body g).length ≤ 400000000004 := by rw [body_eq, List.length_append]; simp [head]; omega
  obtain ⟨C, hC⟩ : ∃ C : List Value, gcells L g = C := ⟨_, rfl⟩
  have HCC := Aside0.mk hC
  have hb : Below w.heap.size w (w.alloc (.cells (gcells L g).toArray 27)) := below_alloc (Below.refl _ _) _
  have HC := Aside0.mk (Check_any L g hn.tame (w.alloc (.cells (gcells L g).toArray 27)) (hR.below hb) (hT.below hb))
  rw [hok] at HC
  have HB := Aside0.mk hb
  rw [hC] at HC HB ⊢
  obtain ⟨v0, v1, v2, v3, v4, v5, rfl⟩ : ∃ v0 v1 v2 v3 v4 v5, C = [v0, v1, v2, v3, v4, v5] := ⟨_, _, _, _, _, _, hC.symm⟩
  have hcv := fun (w : World) (C : Array Value) (n c : Nat) => Lib.run_convert_bytes_const (P := Tryd.prog) w 47 5 C n c Tryd.underlying47 Tryd.underlying5
  clear hC hR hT hok hb h0 h1 h2 h4 hk hgood
  go_enter Tryd.func18, Tryd.ntmps18
  go_wp2_with (fail)
  refine HC.out.mono ?_
  rintro en w1 ⟨rfl, hb1⟩
  have H1 := Aside0.mk (below_step HB.out hb1)
  have HG := Aside0.mk (blk_below (heap_alloc_new w (.cells #[v0, v1, v2, v3, v4, v5] 27)) hb1)
  have HL1 := Aside0.mk (blk_lt HG.out)
  clear hb1 HC
  go_wp2_with (fail)
  have HWT : Aside0 (Wx w (w1.heap.size + 1) ((w1.alloc (.cells #[.int .u8 77, .int .u8 68, .int .u8 73, .int .u8 49] 5 (4, 5))).alloc (.cells #[.slice (some ⟨w1.heap.size, 0, none⟩) 4 4] 75)) head) := ⟨by
    have hle := H1.out.size
    have hbb : Below w1.heap.size w1 ((w1.alloc (.cells #[.int .u8 77, .int .u8 68, .int .u8 73, .int .u8 49] 5 (4, 5))).alloc (.cells #[.slice (some ⟨w1.heap.size, 0, none⟩) 4 4] 75)) := below_alloc (below_alloc (Below.refl _ _) _) _
    have hnew := heap_alloc_new (w1.alloc (.cells #[.int .u8 77, .int .u8 68, .int .u8 73, .int .u8 49] 5 (4, 5))) (.cells #[.slice (some ⟨w1.heap.size, 0, none⟩) 4 4] 75)
    refine ⟨below_step H1.out hbb, by omega, _, by simpa using hnew, ?_⟩
    exact .inr ⟨⟨_, rfl, rfl, hle, blk_alloc (heap_alloc_new w1 _) _⟩⟩⟩
  have HGG : Aside0 (((w1.alloc (.cells #[.int .u8 77, .int .u8 68, .int .u8 73, .int .u8 49] 5 (4, 5))).alloc (.cells #[.slice (some ⟨w1.heap.size, 0, none⟩) 4 4] 75)).heap[w.heap.size]? = some (.cells (gcells L g).toArray 27 (0, 0))) := ⟨by rw [HCC.out]; exact blk_alloc (blk_alloc HG.out _) _⟩
  refine (wall_any w (w1.heap.size + 1) w.heap.size L g head _ HWT.out HGG.out HWO.out (by simp [head]; omega)).mono ?_
  rintro en w2 ⟨rfl, hw2⟩
  rw [← body_eq] at hw2
  obtain ⟨v, hv1, hv2⟩ := hw2.row
  obtain ⟨A, c, rfl⟩ := Kd.R_slice hv2
  have HV := Aside0.mk hv2
  have HB2 := Aside0.mk hw2.bel
  have hx2 : w2.cell? ⟨w1.heap.size + 1, 0, none⟩ = some (.slice A (body g).length c) := cell_of_one hv1
  obtain ⟨A', c', e', hcl, hcc⟩ := Kd.R_reads hv2
  injection e' with e1 e2 e3
  subst e1 e3
  have HS := Aside0.mk (image_sum.calls k A c (body g) _ w2 hcc hcl HK.out)
  have HV1 := Aside0.mk hv1
  clear hw2 hv2 hcc hcl e2 hv1 HWT HGG
  go_wp2_with (fail)
  refine HS.out.mono ?_
  rintro en w3 ⟨rfl, hd⟩
  obtain ⟨m, rfl⟩ := hd.out
  clear HS hd
  obtain ⟨N, hN⟩ : ∃ N, fnv (body g) = N := ⟨_, rfl⟩
  have HN := Aside0.mk hN
  rw [hN]
  clear hN
  have HRW : Aside0 ((Kd.int .u8).C ((w2.drewN m).alloc (.cells #[.int .u8 ((N : Int) % 256), .int .u8 ((N : Int) / 256 % 256), .int .u8 ((N : Int) / 65536 % 256), .int .u8 ((N : Int) / 16777216 % 256)] 5)) (some ⟨w2.heap.size, 0, none⟩) 4 (sb N)) := ⟨by
    have hblk := heap_alloc_new (w2.drewN m) (.cells #[.int .u8 ((N : Int) % 256), .int .u8 ((N : Int) / 256 % 256), .int .u8 ((N : Int) / 65536 % 256), .int .u8 ((N : Int) / 16777216 % 256)] 5)
    have h1 := R_block (e := 5) (base := 0) (k := .u8) (xs := sb N) (w := (w2.drewN m).alloc (.cells #[.int .u8 ((N : Int) % 256), .int .u8 ((N : Int) / 256 % 256), .int .u8 ((N : Int) / 65536 % 256), .int .u8 ((N : Int) / 16777216 % 256)] 5)) hblk (Nat.zero_le _) (by show 4 ≤ maxLen; decide)
    obtain ⟨A', c', e', -, hcc⟩ := Kd.R_reads h1
    injection e' with e1 e2 e3
    rw [← e1] at hcc
    exact hcc⟩
  have HV2 := Aside0.mk (Kd.R_below HV.out (below_alloc (pw_below_drewN (Below.refl w2.heap.size w2) m) (.cells #[.int .u8 ((N : Int) % 256), .int .u8 ((N : Int) / 256 % 256), .int .u8 ((N : Int) / 65536 % 256), .int .u8 ((N : Int) / 16777216 % 256)] 5)))
  have HB3 := Aside0.mk (below_step HB2.out (below_alloc (pw_below_drewN (Below.refl w2.heap.size w2) m) (.cells #[.int .u8 ((N : Int) % 256), .int .u8 ((N : Int) / 256 % 256), .int .u8 ((N : Int) / 65536 % 256), .int .u8 ((N : Int) / 16777216 % 256)] 5)))
  go_wp2_with (first | (refine Kd.R_append_row (w0 := w) (Value.int .u8) 0 (h1 := fun _ => rfl) w.heap.size rfl (.tmp 27) (.tmp 39) 47 5 (.int .u8 0) 1 rfl Tryd.underlying47 info5 rfl (by decide) (.slice A (body g).length c) (body g) (sb N) (some ⟨w2.heap.size, 0, none⟩) 4 4 (fun _ => True) rfl (by first | (go_simp; done) | (go_simp; rfl)) (fun _ _ => trivial) HV2.out HRW.out HB3.out HB3.out.size (by omega) ?_; intro v6 w6 ho hb hg hat; have HO6 := Aside0.mk ho; have HB6 := Aside0.mk hb; obtain ⟨A6, c6, rfl⟩ := Kd.R_slice ho; clear ho hb hg hat))
  go_ret2
  have ho : (Kd.int .u8).R 5 w6 w.heap.size (fun _ => True) (.slice A6 ((body g).length + (sb N).length) c6) (body g ++ sb N) := by
    have := HO6.out
    rw [List.length_append] at this
    exact this
  refine ⟨.slice A6 ((body g).length + (sb N).length) c6, rfl, ?_, HB6.out⟩
  unfold image
  rw [HN.out]
  exact ho
end Go.Proofs.YtihjjkoddphmiaaDoor.img

namespace Go.Proofs.YtihjjkoddphmiaaDoor.img
open Go.RowKit Go.Proofs.YtihjjkoddphmiaaDoorW.PrintWords Go.Proofs.YtihjjkoddphmiaaDoorW.PrintLast Go.Proofs.YtihjjkoddphmiaaDoorW.PrintMore Go.Proofs.YtihjjkoddphmiaaDoor.PImageRound
set_option linter.unusedVariables false
set_option linter.unusedSimpArgs false

/-- A string of bytes tells them. -/
theorem str_inj : ∀ {xs ys : List Int}, Bytes xs → Bytes ys → (strOfNums xs).toList = (strOfNums ys).toList → xs = ys := by
  intro xs ys hx hy h
  rw [ByteArray.toList_eq, ByteArray.toList_eq, strOfNums_data, strOfNums_data] at h
  induction xs generalizing ys with
  | nil =>
    cases ys with
    | nil => rfl
    | cons y r => simp at h
  | cons x r ih =>
    cases ys with
    | nil => simp at h
    | cons y q =>
      simp only [List.map_cons, List.cons.injEq] at h
      have h1 := hx x (by simp)
      have h2 := hy y (by simp)
      have e := congrArg UInt8.toNat h.1
      simp at e
      rw [ih (fun z hz => hx z (by simp [hz])) (fun z hz => hy z (by simp [hz])) h.2]
      congr 1
      omega
end Go.Proofs.YtihjjkoddphmiaaDoor.img

namespace Go.Proofs.YtihjjkoddphmiaaDoor.img
open Go.RowKit Go.Proofs.YtihjjkoddphmiaaDoorW.PrintWords Go.Proofs.YtihjjkoddphmiaaDoorW.PrintMore Go.Proofs.YtihjjkoddphmiaaDoor.PImageRound
set_option linter.unusedVariables false
set_option linter.unusedSimpArgs false

end Go.Proofs.YtihjjkoddphmiaaDoor.img

namespace Go.Proofs.YtihjjkoddphmiaaDoor.img
open Go.RowKit Go.Proofs.YtihjjkoddphmiaaDoorW.PrintWords Go.Proofs.YtihjjkoddphmiaaDoorW.PrintLast Go.Proofs.YtihjjkoddphmiaaDoorW.PrintMore Go.Proofs.YtihjjkoddphmiaaDoor.PImageRound
set_option linter.unusedVariables false
set_option linter.unusedSimpArgs false

section
variable {σ α : Type}
end
/-- What is read of a whole graph. -/
structure Fits (n : Nat) (g : Gr) : Prop where
  objs : g.objs.length ≤ n
  slots : g.slots.length ≤ n
  handles : g.handles.length ≤ n
  queue : g.queue.length ≤ n
  obj : ∀ o ∈ g.objs, o.f3.length ≤ n ∧ o.f4.length ≤ n
  frames : ∀ fr ∈ g.slots, fr.length ≤ n ∧ ∀ f ∈ fr, f.length ≤ n
  next : 0 ≤ g.next ∧ g.next ≤ 4611686018427387905
  words : Words g
/-- The registry is told of the objects. -/
def whole (g : Gr) : Gr := { g with registry := finals g.objs }
theorem Fits.tame {n : Nat} {g : Gr} (h : Fits n g) (hn : n ≤ 1000000) : Tame (whole g) := by
  have h1 := h.objs
  have h2 := h.slots
  have h3 := h.handles
  have h4 := h.queue
  have h5 := finalsFrom_len g.objs 0
  exact ⟨⟨by show g.objs.length ≤ _; omega, by show g.slots.length ≤ _; omega, fun fr hf => by have := (h.frames fr hf).1; omega, fun fr hf f hff => by have := (h.frames fr hf).2 f hff; omega, by show g.handles.length ≤ _; omega, by show (finals g.objs).length ≤ _; unfold finals; omega, by show g.queue.length ≤ _; omega⟩,
    fun o ho => by have := h.obj o ho; omega⟩
end Go.Proofs.YtihjjkoddphmiaaDoor.img

namespace Go.Proofs.YtihjjkoddphmiaaDoor.img
open Go.RowKit Go.Proofs.YtihjjkoddphmiaaDoorW.PrintWords Go.Proofs.YtihjjkoddphmiaaDoorW.PrintLast Go.Proofs.YtihjjkoddphmiaaDoorW.PrintMore Go.Proofs.YtihjjkoddphmiaaDoor.PImageRound
set_option linter.unusedVariables false
set_option linter.unusedSimpArgs false

/-- A graph that was handed back. -/
structure Got (w w' : World) (g : Gr) (v0 v1 v2 v3 v4 : Value) : Prop where
  r0 : k62.R 62 w' w.heap.size (fun _ => True) v0 g.objs
  r1 : (Kd.slice 24 (Kd.slice 3 (Kd.int .i64))).R 31 w' w.heap.size (fun _ => True) v1 g.slots
  r2 : (Kd.int .i64).R 3 w' w.heap.size (fun _ => True) v2 g.handles
  r3 : (Kd.int .i64).R 3 w' w.heap.size (fun _ => True) v3 g.registry
  r4 : (Kd.int .i64).R 3 w' w.heap.size (fun _ => True) v4 g.queue
/-- The results' variables. -/
structure RV (w : World) (wi : World) : Prop where
  bel : Below w.heap.size w wi
  blk : ∃ cs, wi.heap[w.heap.size]? = some (.cells cs 27 (0, 0)) ∧ cs.size = 6
  at_ : wi.heap[w.heap.size + 1]? = some (.cells #[.int .i64 0] 3 (0, 0))
  er : wi.heap[w.heap.size + 1 + 1]? = some (.cells #[.int .i64 0] 40 (0, 0))
theorem RV.below {w wi wj : World} (h : RV w wi) (hb : Below wi.heap.size wi wj) : RV w wj := by
  obtain ⟨cs, h1, h2⟩ := h.blk
  exact ⟨below_step h.bel hb, ⟨cs, blk_below h1 hb, h2⟩, blk_below h.at_ hb, blk_below h.er hb⟩

theorem RV.kept {w wi wj : World} {S : Nat → Prop} (h : RV w wi) (hb : Below w.heap.size w wj) (hk : Kept wi wj S) (h1 : ¬ S (w.heap.size + 1)) (h2 : ¬ S (w.heap.size + 1 + 1)) (hg : ∃ cs, wj.heap[w.heap.size]? = some (.cells cs 27 (0, 0)) ∧ cs.size = 6) : RV w wj :=
  ⟨hb, hg, blk_kept h.at_ hk h1, blk_kept h.er hk h2⟩
end Go.Proofs.YtihjjkoddphmiaaDoor.img

namespace Go.Proofs.YtihjjkoddphmiaaDoor.img
open Go.RowKit Go.Proofs.YtihjjkoddphmiaaDoorW.PrintWords Go.Proofs.YtihjjkoddphmiaaDoorW.PrintLast Go.Proofs.YtihjjkoddphmiaaDoorW.PrintMore Go.Proofs.YtihjjkoddphmiaaDoor.PImageRound
set_option linter.unusedVariables false
set_option linter.unusedSimpArgs false

theorem sb_len (n : Nat) : (sb n).length = 4 := rfl
theorem image_len (g : Gr) : (image g).length = (body g).length + 4 := by unfold image; rw [List.length_append, sb_len]
/-- A place in the bytes, and an error that is one. -/
def Fine {α : Type} (n : Nat) (r : Res α) : Prop :=
  match r with
  | .ok _ p => p ≤ n
  | .bad q c => q ≤ n ∧ 160 ≤ c
theorem Fine.bind {α β : Type} {n : Nat} {r : Res α} {f : α → Nat → Res β} (h : Fine n r) (k : ∀ a p, p ≤ n → Fine n (f a p)) : Fine n (r.bind f) := by
  cases r with
  | ok a p => exact k a p h
  | bad q c => exact h
section
variable {σ α : Type}
end
end Go.Proofs.YtihjjkoddphmiaaDoor.img

namespace Go.Proofs.YtihjjkoddphmiaaDoor.img
open Go.RowKit Go.Proofs.YtihjjkoddphmiaaDoorW.PrintWords Go.Proofs.YtihjjkoddphmiaaDoorW.PrintLast Go.Proofs.YtihjjkoddphmiaaDoorW.PrintMore Go.Proofs.YtihjjkoddphmiaaDoor.PImageRound
set_option linter.unusedVariables false
set_option linter.unusedSimpArgs false

def sumF (l : List (List Int)) : Nat := (l.map List.length).sum
def sumS (l : List (List (List Int))) : Nat := (l.map fun fr => fr.length + sumF fr).sum
def sumO (l : List S62) : Nat := (l.map fun o => o.f3.length + o.f4.length).sum
theorem sumF_drop (l : List (List Int)) (i : Nat) (h : i < l.length) : sumF (l.drop i) = (l.getD i []).length + sumF (l.drop (i + 1)) := by
  rw [drop_get l i [] h]; rfl
theorem sumS_drop (l : List (List (List Int))) (i : Nat) (h : i < l.length) : sumS (l.drop i) = (l.getD i []).length + sumF (l.getD i []) + sumS (l.drop (i + 1)) := by
  rw [drop_get l i [] h]; rfl
theorem sumO_drop (l : List S62) (i : Nat) (h : i < l.length) : sumO (l.drop i) = (l.getD i z62).f3.length + (l.getD i z62).f4.length + sumO (l.drop (i + 1)) := by
  rw [drop_get l i z62 h]; rfl

theorem size_l2 (g : Gr) (hr : Roomy g) (t : Nat) (ht : t < g.slots.length) (X : Nat)
    (hP : ∀ n : Int, 0 ≤ n → n ≤ 1000000000000000000 → ∃ r, Ev (fun k => middenlaw16_small.l1 k n ((t : Int) + 1) g.objs g.slots g.handles g.registry g.queue g.next) r ∧ (r = true → n + X ≤ 16384)) :
    ∀ (d i : Nat) (n : Int), (g.slots.getD t []).length - i = d → i ≤ (g.slots.getD t []).length → 0 ≤ n → n ≤ 1000000000000000000 →
      ∃ r, Ev (fun k => middenlaw16_small.l2 k n (t : Int) (i : Int) g.objs g.slots g.handles g.registry g.queue g.next) r ∧ (r = true → n + sumF ((g.slots.getD t []).drop i) + X ≤ 16384) := by
  have hL5 : rd_L5 g.slots (t : Int) = g.slots.getD t [] := by simp [rd_L5]
  have hfr := hr.frames _ (get_mem (d := []) ht)
  have hsl := hr.slots
  intro d
  induction d with
  | zero =>
    intro i n hd hi h0 h1
    have e : i = (g.slots.getD t []).length := by omega
    obtain ⟨r, he, hr1⟩ := hP n h0 (by omega)
    refine ⟨r, Ev.step (fun k => ?_) he, fun h => ?_⟩
    · simp only [middenlaw16_small.l2]
      rw [if_pos (by omega), if_pos (by omega), hL5, if_neg (by omega), wrap_small (by omega)]
    · rw [e, List.drop_length]
      have := hr1 h
      show n + ((0 : Nat) : Int) + X ≤ 16384
      omega
  | succ d ih =>
    intro i n hd hi h0 h1
    have hlt : i < (g.slots.getD t []).length := by omega
    by_cases hn : n ≤ 16384
    · have hfl := hfr.2 _ (get_mem (d := []) hlt)
      have hL2 : rd_L2 (g.slots.getD t []) (i : Int) = (g.slots.getD t []).getD i [] := by simp [rd_L2]
      obtain ⟨r, he, hr1⟩ := ih (i + 1) (n + ((g.slots.getD t []).getD i []).length) (by omega) (by omega) (by omega) (by omega)
      refine ⟨r, Ev.step (fun k => ?_) he, fun h => ?_⟩
      · simp only [middenlaw16_small.l2]
        rw [if_pos (by omega), if_pos (by omega), hL5, if_pos (by omega), if_pos hn, if_pos (by omega), hL2, wrap_small (by omega), wrap_small (by omega)]
        rfl
      · have h2 := hr1 h
        rw [sumF_drop _ i hlt]
        omega
    · obtain ⟨r, he, hr1⟩ := hP n h0 (by omega)
      refine ⟨r, Ev.step (fun k => ?_) he, fun h => absurd (hr1 h) (by omega)⟩
      simp only [middenlaw16_small.l2]
      rw [if_pos (by omega), if_pos (by omega), hL5, if_pos (by omega), if_neg hn, wrap_small (by omega)]
theorem size_l1 (g : Gr) (hr : Roomy g) : ∀ (d t : Nat) (n : Int), g.slots.length - t = d → t ≤ g.slots.length → 0 ≤ n → n ≤ 1000000000000000000 →
    ∃ r, Ev (fun k => middenlaw16_small.l1 k n (t : Int) g.objs g.slots g.handles g.registry g.queue g.next) r ∧ (r = true → n + sumS (g.slots.drop t) ≤ 16384) := by
  intro d
  induction d with
  | zero =>
    intro t n hd ht h0 h1
    have e : t = g.slots.length := by omega
    refine ⟨decide (n ≤ 16384), ?_, fun h => by rw [e, List.drop_length]; show n + ((0 : Nat) : Int) ≤ 16384; have := of_decide_eq_true h; omega⟩
    refine Ev.step (f := fun k => middenlaw16_small.j3 k n (t : Int) false g.objs g.slots g.handles g.registry g.queue g.next) (fun k => ?_) (Ev.step (f := fun _ => some (decide (n ≤ 16384))) (fun k => ?_) (Ev.now _))
    · simp only [middenlaw16_small.l1]
      rw [if_neg (by omega)]
    · simp [middenlaw16_small.j3]
  | succ d ih =>
    intro t n hd ht h0 h1
    have hlt : t < g.slots.length := by omega
    by_cases hn : n ≤ 16384
    · have hL5 : rd_L5 g.slots (t : Int) = g.slots.getD t [] := by simp [rd_L5]
      have hfr := hr.frames _ (get_mem (d := []) hlt)
      obtain ⟨r, he, hr1⟩ := size_l2 g hr t hlt (sumS (g.slots.drop (t + 1))) (fun n' h0' h1' => ih (t + 1) n' (by omega) (by omega) h0' h1') (g.slots.getD t []).length 0 (n + (g.slots.getD t []).length) (by omega) (by omega) (by omega) (by omega)
      refine ⟨r, Ev.step (f := fun k => middenlaw16_small.j3 k n (t : Int) true g.objs g.slots g.handles g.registry g.queue g.next) (fun k => ?_) (Ev.step (fun k => ?_) he), fun h => ?_⟩
      · simp only [middenlaw16_small.l1]
        rw [if_pos (by omega), decide_eq_true hn]
      · simp only [middenlaw16_small.j3]
        rw [if_pos trivial, if_pos (by omega), if_pos (by omega), hL5, wrap_small (by omega)]
        rfl
      · rw [sumS_drop _ t hlt]
        have h2 := hr1 h
        rw [List.drop_zero] at h2
        omega
    · refine ⟨false, Ev.step (f := fun k => middenlaw16_small.j3 k n (t : Int) false g.objs g.slots g.handles g.registry g.queue g.next) (fun k => ?_) (Ev.step (f := fun _ => some false) (fun k => ?_) (Ev.now _)), fun h => (by cases h)⟩
      · simp only [middenlaw16_small.l1]
        rw [if_pos (by omega), decide_eq_false hn]
      · simp [middenlaw16_small.j3, hn]
theorem size_l0 (g : Gr) (hr : Roomy g) : ∀ (d i : Nat) (n : Int), g.objs.length - i = d → i ≤ g.objs.length → 0 ≤ n → n ≤ 1000000000000000000 →
    ∃ r, Ev (fun k => middenlaw16_small.l0 k n (i : Int) g.objs g.slots g.handles g.registry g.queue g.next) r ∧ (r = true → n + sumO (g.objs.drop i) + sumS g.slots ≤ 16384) := by
  have hol := hr.objs
  have hj : ∀ (n : Int), 0 ≤ n → n ≤ 1000000000000000000 → ∃ r, Ev (fun k => middenlaw16_small.j1 k n g.objs g.slots g.handles g.registry g.queue g.next) r ∧ (r = true → n + sumS g.slots ≤ 16384) := by
    intro n h0 h1
    obtain ⟨r, he, h2⟩ := size_l1 g hr g.slots.length 0 n (by omega) (by omega) h0 (by omega)
    exact ⟨r, Ev.step (fun k => by simp only [middenlaw16_small.j1]; rfl) he, fun h => by simpa using h2 h⟩
  intro d
  induction d with
  | zero =>
    intro i n hd hi h0 h1
    have e : i = g.objs.length := by omega
    obtain ⟨r, he, h2⟩ := hj n h0 h1
    refine ⟨r, Ev.step (fun k => ?_) he, fun h => by rw [e, List.drop_length]; have := h2 h; show n + ((0 : Nat) : Int) + _ ≤ 16384; omega⟩
    simp only [middenlaw16_small.l0]
    rw [if_neg (by omega)]
  | succ d ih =>
    intro i n hd hi h0 h1
    have hlt : i < g.objs.length := by omega
    by_cases hn : n ≤ 16384
    · have hT : rd_T62 g.objs (i : Int) = g.objs.getD i z62 := by simp [rd_T62]
      have hob := hr.obj _ (get_mem (d := z62) hlt)
      obtain ⟨r, he, h2⟩ := ih (i + 1) (n + (g.objs.getD i z62).f3.length + (g.objs.getD i z62).f4.length) (by omega) (by omega) (by omega) (by omega)
      refine ⟨r, Ev.step (fun k => ?_) he, fun h => ?_⟩
      · simp only [middenlaw16_small.l0]
        rw [if_pos (by omega), if_pos hn, if_pos (by omega), hT, wrap_small (i := n + _) (by omega), wrap_small (by omega), wrap_small (by omega)]
        rfl
      · have h3 := h2 h
        rw [sumO_drop _ i hlt]
        omega
    · obtain ⟨r, he, h2⟩ := hj n h0 h1
      refine ⟨r, Ev.step (fun k => ?_) he, fun h => absurd (h2 h) (by omega)⟩
      simp only [middenlaw16_small.l0]
      rw [if_pos (by omega), if_neg hn]

/-- All that a graph has. -/
def total (g : Gr) : Nat := g.objs.length + g.slots.length + g.handles.length + g.registry.length + g.queue.length + sumO g.objs + sumS g.slots
theorem mem_sum {α : Type} (f : α → Nat) : ∀ {l : List α} {x : α}, x ∈ l → f x ≤ (l.map f).sum
  | [], x, h => by simp at h
  | a :: r, x, h => by
    simp only [List.map_cons, List.sum_cons]
    rcases List.mem_cons.1 h with rfl | h
    · omega
    · have := mem_sum f h
      omega
theorem total_near {g : Gr} (h : total g ≤ 16384) : Near g := by
  unfold total at h
  refine ⟨by omega, by omega, by omega, by omega, by omega, fun o ho => ?_, fun fr hf => ?_⟩
  · have : o.f3.length + o.f4.length ≤ sumO g.objs := mem_sum (fun o : S62 => o.f3.length + o.f4.length) ho
    omega
  · have : fr.length + sumF fr ≤ sumS g.slots := mem_sum (fun fr : List (List Int) => fr.length + sumF fr) hf
    refine ⟨by omega, fun f hff => ?_⟩
    have h2 : f.length ≤ sumF fr := mem_sum List.length hff
    omega
theorem size_ev (g : Gr) (hr : Roomy g) : ∃ r, Ev (fun k => middenlaw16_small.f k g.objs g.slots g.handles g.registry g.queue g.next) r ∧ (r = true → total g ≤ 16384) := by
  have h1 := hr.objs
  have h2 := hr.slots
  have h3 := hr.handles
  have h4 := hr.registry
  have h5 := hr.queue
  obtain ⟨r, he, h⟩ := size_l0 g hr g.objs.length 0 ((g.objs.length : Int) + g.slots.length + g.handles.length + g.registry.length + g.queue.length) (by omega) (by omega) (by omega) (by omega)
  refine ⟨r, ?_, fun e => ?_⟩
  · have hc : ∀ k, middenlaw16_small.f k g.objs g.slots g.handles g.registry g.queue g.next = middenlaw16_small.l0 k ((g.objs.length : Int) + g.slots.length + g.handles.length + g.registry.length + g.queue.length) ((0 : Nat) : Int) g.objs g.slots g.handles g.registry g.queue g.next := by
      intro k
      unfold middenlaw16_small.f
      rw [wrap_small (i := (g.objs.length : Int) + g.slots.length) (by omega), wrap_small (i := (g.objs.length : Int) + g.slots.length + g.handles.length) (by omega), wrap_small (i := (g.objs.length : Int) + g.slots.length + g.handles.length + g.registry.length) (by omega), wrap_small (by omega)]
      rfl
    exact Ev.congr hc he
  · have := h e
    rw [List.drop_zero] at this
    unfold total
    omega

theorem flat_sum {α : Type} {E : α → List Int} (f : α → Nat) : ∀ {l : List α}, (∀ x ∈ l, (E x).length ≤ f x) → (l.flatMap E).length ≤ (l.map f).sum
  | [], _ => by simp
  | a :: r, h => by
    have h1 := h a (by simp)
    have h2 := flat_sum f (l := r) (fun x hx => h x (by simp [hx]))
    simp only [List.flatMap_cons, List.length_append, List.map_cons, List.sum_cons]
    omega
theorem encL_ints {more : Int} {l : List Int} (hl : l.length ≤ 131072) (h : ∀ x ∈ l, x + more < 18446744073709551616) : (encL (encI more) l).length ≤ 10 + l.length * 10 :=
  encL_len (by omega) (fun x hx => encI_ten (h x hx))
theorem sum_map_ten {α : Type} (f : α → Nat) (l : List α) : (l.map fun x => 10 + f x * 10).sum = l.length * 10 + (l.map f).sum * 10 := by
  induction l with
  | nil => rfl
  | cons a r ih => simp only [List.map_cons, List.sum_cons, List.length_cons, ih]; omega
theorem encOs_size : ∀ (l : List S62) (last : Int), allS (fun _ o => o.f0) okW last l → (∀ o ∈ l, o.f3.length ≤ 131072 ∧ o.f4.length ≤ 131072) → (encOs last l).length ≤ l.length * 50 + sumO l * 10
  | [], _, _, _ => by simp [encOs, sumO]
  | a :: r, last, ha, hl => by
    have h1 := encOs_size r a.f0 ha.2 (fun o ho => hl o (by simp [ho]))
    obtain ⟨⟨a1, a2, a3⟩, b, c, d, e⟩ := ha.1
    have h2 := hl a (by simp)
    have e1 : (enc (a.f0 - last).toNat).length ≤ 10 := enc_ten (by omega)
    have e2 : (encI 0 a.f1).length ≤ 10 := encI_ten (by omega)
    have e3 : (encI 0 a.f2).length ≤ 10 := encI_ten (by omega)
    have e4 := encL_ints (more := 0) (l := a.f3) h2.1 (fun x hx => by have := d.2 x hx; omega)
    have e5 := encL_ints (more := 0) (l := a.f4) h2.2 (fun x hx => by have := e.2 x hx; omega)
    rw [encOs]
    have hs : sumO (a :: r) = a.f3.length + a.f4.length + sumO r := rfl
    simp only [encO, List.length_append, List.length_cons, hs]
    omega
/-- A small graph's image. -/
theorem Good.size {g : Gr} (h : Good g) (ht : total g ≤ 16384) : (image g).length ≤ 900000 := by
  have hn := total_near ht
  have h1 := encOs_size g.objs 0 h.objs hn.obj
  have h2 : (encL (encL (encL (encI 0))) g.slots).length ≤ 10 + (g.slots.length * 10 + sumS g.slots * 10) := by
    have hf := flat_sum (E := encL (encL (encI 0))) (fun fr : List (List Int) => 10 + (fr.length + sumF fr) * 10) (l := g.slots) (fun fr hf => by
      obtain ⟨c1, c2⟩ := h.slots.2 fr hf
      have hf2 := flat_sum (E := encL (encI 0)) (fun f : List Int => 10 + f.length * 10) (l := fr) (fun f hff => encL_ints (by have := (c2 f hff).1; omega) (fun x hx => by have := (c2 f hff).2 x hx; omega))
      rw [sum_map_ten] at hf2
      have e0 : (enc fr.length).length ≤ 10 := enc_ten (by omega)
      have hs : sumF fr = (fr.map List.length).sum := rfl
      show (encL (encL (encI 0)) fr).length ≤ 10 + (fr.length + sumF fr) * 10
      unfold encL
      rw [List.length_append]
      unfold encL at hf2
      omega)
    rw [sum_map_ten] at hf
    have e0 : (enc g.slots.length).length ≤ 10 := enc_ten (by have := hn.slots; omega)
    have hs : sumS g.slots = (g.slots.map fun fr => fr.length + sumF fr).sum := rfl
    unfold encL
    rw [List.length_append]
    unfold encL at hf
    omega
  have h3 := encL_ints (more := 1) (l := g.handles) (by have := hn.handles; omega) (fun x hx => by have := h.handles.2 x hx; omega)
  have h4 := encL_ints (more := 0) (l := g.queue) (by have := hn.queue; omega) (fun x hx => by have := h.queue x hx; omega)
  have h5 : (enc g.next.toNat).length ≤ 10 := enc_ten (by have := h.next; omega)
  have h6 : (enc g.objs.length).length ≤ 10 := enc_ten (by have := hn.objs; omega)
  rw [image_len, body_eq, List.length_append]
  have h7 : head.length = 4 := rfl
  unfold rest
  unfold total at ht
  simp only [List.length_append, h7]
  omega
end Go.Proofs.YtihjjkoddphmiaaDoor.img

namespace Go.Proofs.YtihjjkoddphmiaaDoor.img
open Go.RowKit Go.Proofs.YtihjjkoddphmiaaDoorW.PrintWords Go.Proofs.YtihjjkoddphmiaaDoorW.PrintLast Go.Proofs.YtihjjkoddphmiaaDoorW.PrintMore Go.Proofs.YtihjjkoddphmiaaDoor.PImageRound
set_option linter.unusedVariables false
set_option linter.unusedSimpArgs false

/-- The opening example's graph. -/
def gk : Gr := ⟨[], [[]], [], [], [], 1⟩
theorem same_ev (l : List Int) (r : List Int) (hl : Bytes l) (hr : Bytes r) : middenlaw16_same.f l r = some (decide (l = r)) := by
  unfold middenlaw16_same.f
  congr 1
  by_cases h : l = r
  · subst h; simp
  · rw [decide_eq_false h]
    rw [beq_eq_false_iff_ne]
    intro e
    exact h (str_inj hl hr e)

set_option maxHeartbeats 8000000 in
set_option maxRecDepth 100000 in
/-- The law's num. -/
theorem num_is (a : Int) (w : World) : Calls Tryd.prog 12 #[.int .i64 a] w fun e w' => e = .returned (.int .i64 a) ∧ w = w' := by
  go_enter Tryd.func12, Tryd.ntmps12
  go_wp2
  go_ret
  exact ⟨by first | rfl | (simp; done), by first | rfl | (simp; done)⟩

/-- Two rows of bytes are compared. -/
theorem same_any {A B : Option Addr} {c d : Nat} {l r : List Int} {w : World} (hl : Bytes l) (hr : Bytes r) (h1 : Kd.C (Kd.int .u8) w A l.length l) (h2 : l.length ≤ c) (h3 : Kd.C (Kd.int .u8) w B r.length r) (h4 : r.length ≤ d) :
    Calls Tryd.prog 19 #[.slice A l.length c, .slice B r.length d] w fun e w' => e = .returned (.bool (decide (l = r))) ∧ Below w.heap.size w w' := by
  refine (middenlaw16_same.calls A c l B d r _ w h1 h2 h3 h4 (same_ev l r hl hr)).mono ?_
  rintro e w' ⟨rfl, hd⟩
  obtain ⟨m, rfl⟩ := hd.out
  exact ⟨rfl, pw_below_drewN (Below.refl _ _) m⟩

end Go.Proofs.YtihjjkoddphmiaaDoor.img
