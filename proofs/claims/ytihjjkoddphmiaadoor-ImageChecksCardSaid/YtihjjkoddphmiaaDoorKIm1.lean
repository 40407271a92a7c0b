import Derived.Test.YtihjjkoddphmiaaDoorKPImageRoundx0
import Derived.Test.YtihjjkoddphmiaaDoorRows
import Derived.WalkKit
import Derived.WalkLawsBesides
import Derived.WalkSpells
import Derived.Deep.QuietTactic
import Derived.BigQuiet
import Derived.Test.YtihjjkoddphmiaaDoorKWMore
import Derived.Test.YtihjjkoddphmiaaDoorKWKept
import Derived.StillTailTactics
import Derived.WalkArith
import Derived.Laws.BitsLemmas
namespace Go.Proofs.YtihjjkoddphmiaaDoor.img
open Go.Proofs.YtihjjkoddphmiaaDoor.PImageRound

/-- A graph. -/
structure Gr where
  objs : List S62
  slots : List (List (List Int))
  handles : List Int
  registry : List Int
  queue : List Int
  next : Int

/-- A number's bytes. -/
def enc (n : Nat) : List Int := if n < 128 then [(n : Int)] else ((n % 128 + 128 : Nat) : Int) :: enc (n / 128)
termination_by n
decreasing_by omega

def encI (more : Int) (n : Int) : List Int := enc (n + more).toNat
def encL {α : Type} (each : α → List Int) (l : List α) : List Int := enc l.length ++ l.flatMap each

def encO (last : Int) (o : S62) : List Int := enc (o.f0 - last).toNat ++ encI 0 o.f1 ++ encI 0 o.f2 ++ encL (encI 0) o.f3 ++ encL (encI 0) o.f4
def encOs : Int → List S62 → List Int
  | _, [] => []
  | last, o :: r => encO last o ++ encOs o.f0 r

def head : List Int := [77, 68, 73, 49]
def body (g : Gr) : List Int :=
  head ++ (enc g.next.toNat ++ ((enc g.objs.length ++ encOs 0 g.objs) ++ (encL (encL (encL (encI 0))) g.slots ++ (encL (encI 1) g.handles ++ encL (encI 0) g.queue))))

/-- What reading comes to. -/
inductive Res (α : Type) where
  | ok (a : α) (pos : Nat)
  | bad (pos : Nat) (e : Int)

def Res.bind {α β : Type} (r : Res α) (f : α → Nat → Res β) : Res β :=
  match r with
  | .ok a p => f a p
  | .bad p e => .bad p e

/-- A number from 'from_' on: the round i, at 'pos', what is there so far. -/
def numAt (b : List Int) (most : Nat) (from_ : Nat) : Nat → Nat → Nat → Res Nat
  | i, pos, n =>
    if 10 ≤ i then .bad from_ 161
    else if b.length ≤ pos then .bad b.length 160
    else
      let c := (b.getD pos 0).toNat
      if (i = 9 ∧ 1 < c % 128 ∧ c < 128) ∨ (0 < i ∧ c = 0) then .bad from_ 161
      else if c < 128 then (if most < n + c * 128 ^ i then .bad from_ 161 else .ok (n + c * 128 ^ i) (pos + 1))
      else numAt b most from_ (i + 1) (pos + 1) (n + (c % 128) * 128 ^ i)
termination_by i => 10 - i
decreasing_by omega
def num (b : List Int) (most : Nat) (pos : Nat) : Res Nat := numAt b most pos 0 pos 0

def great : Nat := 4611686018427387905
def any64 : Nat := 18446744073709551615

def int (b : List Int) (more : Int) (pos : Nat) : Res Int := (num b great pos).bind fun n p => .ok ((n : Int) - more) p
def many {σ α : Type} (each : σ → Nat → Res (α × σ)) : Nat → σ → Nat → Res (List α × σ)
  | 0, s, p => .ok ([], s) p
  | n + 1, s, p => (each s p).bind fun x p1 => (many each n x.2 p1).bind fun y p2 => .ok (x.1 :: y.1, y.2) p2
def lst {σ α : Type} (b : List Int) (each : σ → Nat → Res (α × σ)) (s : σ) (pos : Nat) : Res (List α × σ) :=
  (num b great pos).bind fun n p => if b.length - p < n then .bad b.length 160 else many each n s p
def plain (b : List Int) (more : Int) (_ : Unit) (pos : Nat) : Res (Int × Unit) := (int b more pos).bind fun n p => .ok (n, ()) p
def raw (b : List Int) (_ : Unit) (pos : Nat) : Res (Int × Unit) := (num b any64 pos).bind fun n p => .ok ((n : Int), ()) p
def ints (b : List Int) (more : Int) (_ : Unit) (pos : Nat) : Res (List Int × Unit) := lst b (plain b more) () pos
def frames (b : List Int) (_ : Unit) (pos : Nat) : Res (List (List Int) × Unit) := lst b (ints b 0) () pos
def obj (b : List Int) (last : Int) (pos : Nat) : Res (S62 × Int) :=
  (num b great pos).bind fun step p0 =>
  (int b 0 p0).bind fun kind p1 => (int b 0 p1).bind fun site p2 =>
  (ints b 0 () p2).bind fun ptrs p3 => (lst b (raw b) () p3).bind fun raws p4 =>
  .ok (⟨min (last + step) 9223372036854775808, kind, site, ptrs.1, raws.1⟩, min (last + step) 9223372036854775808) p4
end Go.Proofs.YtihjjkoddphmiaaDoor.img

namespace Go.Proofs.YtihjjkoddphmiaaDoor.img
open Go.Proofs.YtihjjkoddphmiaaDoor.PImageRound
set_option linter.unusedSimpArgs false
set_option linter.unusedVariables false

/-- From 'pos' on stands 'xs'. -/
def At (b : List Int) (pos : Nat) (xs : List Int) : Prop := ∃ rest, b.drop pos = xs ++ rest

theorem At.len {b : List Int} {pos : Nat} {xs : List Int} (h : At b pos xs) (hx : xs ≠ []) : pos + xs.length ≤ b.length := by
  obtain ⟨rest, h⟩ := h
  have h1 := congrArg List.length h
  simp only [List.length_drop, List.length_append] at h1
  have : 0 < xs.length := List.length_pos_iff.2 hx
  omega
theorem enc_lt {n : Nat} (h : n < 128) : enc n = [(n : Int)] := by rw [enc, if_pos h]
theorem enc_ge {n : Nat} (h : ¬ n < 128) : enc n = ((n % 128 + 128 : Nat) : Int) :: enc (n / 128) := by rw [enc, if_neg h]
section
variable {σ α : Type}
def allS (next : σ → α → σ) (ok : σ → α → Prop) : σ → List α → Prop
  | _, [] => True
  | s, x :: r => ok s x ∧ allS next ok (next s x) r
end

end Go.Proofs.YtihjjkoddphmiaaDoor.img

namespace Go.Proofs.YtihjjkoddphmiaaDoor.img
open Go.Proofs.YtihjjkoddphmiaaDoor.PImageRound
set_option linter.unusedSimpArgs false
set_option linter.unusedVariables false

/-- All are bytes. -/
def Bytes (b : List Int) : Prop := ∀ x ∈ b, 0 ≤ x ∧ x < 256

theorem At.join {b : List Int} {pos : Nat} {xs ys : List Int} (h : At b pos xs) (k : At b (pos + xs.length) ys) : At b pos (xs ++ ys) := by
  obtain ⟨r, h⟩ := h
  obtain ⟨q, k⟩ := k
  refine ⟨q, ?_⟩
  rw [← List.drop_drop, h, List.drop_left] at k
  rw [h, k, List.append_assoc]
theorem At.nil (b : List Int) (pos : Nat) : At b pos [] := ⟨b.drop pos, rfl⟩
theorem At.cons {b : List Int} {pos : Nat} {x : Int} {xs : List Int} (hp : pos < b.length) (hx : b.getD pos 0 = x) (h : At b (pos + 1) xs) : At b pos (x :: xs) := by
  have h1 : At b pos [x] := by
    refine ⟨b.drop (pos + 1), ?_⟩
    rw [List.drop_eq_getElem_cons hp]
    rw [List.getD_eq_getElem?_getD, List.getElem?_eq_getElem hp] at hx
    simp at hx
    rw [hx]
    rfl
  exact h1.join h

section
variable {σ α : Type}
end

end Go.Proofs.YtihjjkoddphmiaaDoor.img

namespace Go.Proofs.YtihjjkoddphmiaaDoor.img
open Go.Proofs.YtihjjkoddphmiaaDoor.PImageRound
set_option linter.unusedSimpArgs false
set_option linter.unusedVariables false

section
variable {σ α : Type}
end
/-- The checksum. -/
def fstep (h c : Nat) : Nat := ((h ^^^ c) * 16777619) % 4294967296
def fnv (l : List Int) : Nat := l.foldl (fun h c => fstep h c.toNat) 2166136261
end Go.Proofs.YtihjjkoddphmiaaDoor.img

namespace Go.Proofs.YtihjjkoddphmiaaDoor.img
open Go.RowKit Go.Proofs.YtihjjkoddphmiaaDoorW.PrintWords Go.Proofs.YtihjjkoddphmiaaDoorW.PrintMore Go.Proofs.YtihjjkoddphmiaaDoor.PImageRound
set_option linter.unusedVariables false
set_option linter.unusedSimpArgs false

/-- The writer's block and its bytes. -/
structure Wt (w0 : World) (gw : Nat) (w : World) (bs : List Int) : Prop where
  bel : Below w0.heap.size w0 w
  old : w0.heap.size ≤ gw
  row : ∃ v, w.heap[gw]? = some (.cells #[v] 75 (0, 0)) ∧ Kd.R (Kd.int .u8) 5 w w0.heap.size (fun _ => True) v bs
/-- What is no row of bytes, and not the writer, stays. -/
structure WStep (gw : Nat) (w w1 : World) : Prop where
  size : w.heap.size ≤ w1.heap.size
  keep : ∀ k t cs, k ≠ gw → t ≠ 5 → w.heap[k]? = some (.cells cs t (0, 0)) → w1.heap[k]? = some (.cells cs t (0, 0))
theorem WStep.refl (gw : Nat) (w : World) : WStep gw w w := ⟨Nat.le_refl _, fun _ _ _ _ _ h => h⟩
theorem WStep.trans {gw : Nat} {w w1 w2 : World} (h : WStep gw w w1) (h1 : WStep gw w1 w2) : WStep gw w w2 := ⟨Nat.le_trans h.size h1.size, fun k t cs hk ht hc => h1.keep k t cs hk ht (h.keep k t cs hk ht hc)⟩
theorem WStep.of_below {gw : Nat} {w w1 : World} (h : Below w.heap.size w w1) : WStep gw w w1 := ⟨h.size, fun k t cs hk ht hc => (h.block k (blk_lt hc)).trans hc⟩
theorem Wt.after {w0 : World} {gw : Nat} {w w1 : World} {bs : List Int} (h : Wt w0 gw w bs) (hb : Below w.heap.size w w1) : Wt w0 gw w1 bs := by
  obtain ⟨v, h1, h2⟩ := h.row
  exact ⟨below_step h.bel hb, h.old, v, blk_below h1 hb, Kd.R_below h2 hb⟩

/-- A byte is laid on. -/
theorem Wt.push {w0 : World} {gw : Nat} {w w1 : World} {v v1 : Value} {bs : List Int} {x : Int} (h0 : w0.heap.size ≤ gw) (h1 : w.heap[gw]? = some (.cells #[v] 75 (0, 0))) (h2 : Kd.R (Kd.int .u8) 5 w w0.heap.size (fun _ => True) v bs) (hg : w.grownBy w1 v.ownBlock) (hb : Below w0.heap.size w0 w1) (hW : Kd.R (Kd.int .u8) 5 w1 w0.heap.size (fun _ => True) v1 (bs ++ [x])) :
    Wt w0 gw (w1.setCell ⟨gw, 0, none⟩ v1) (bs ++ [x]) ∧ WStep gw w (w1.setCell ⟨gw, 0, none⟩ v1) := by
  have e2 := blk_grown h1 hg (Kd.R_ne h2 h1 (by decide))
  refine ⟨⟨below_set hb h0, h0, v1, one_setCell e2, Kd.R_set hW e2 (by decide) _ _⟩, ?_, ?_⟩
  · have := hg.size
    simpa using this
  · intro k t cs hk ht hc
    exact blk_far (blk_grown hc hg (Kd.R_ne h2 hc (fun e => ht e.symm))) hk _

theorem enc_len : ∀ (k n : Nat), n < 128 ^ (k + 1) → (enc n).length ≤ k + 1 := by
  intro k
  induction k with
  | zero => intro n h; rw [enc_lt (by simpa using h)]; simp
  | succ k ih =>
    intro n h
    by_cases h1 : n < 128
    · rw [enc_lt h1]; simp
    · rw [enc_ge h1]
      have h2 : n / 128 < 128 ^ (k + 1) := by
        rw [Nat.div_lt_iff_lt_mul (by decide)]
        rw [Nat.pow_succ] at h
        exact h
      have := ih (n / 128) h2
      simp only [List.length_cons]
      omega
theorem enc_ten {n : Nat} (h : n < 18446744073709551616) : (enc n).length ≤ 10 := enc_len 9 n (Nat.lt_trans h (by decide))

end Go.Proofs.YtihjjkoddphmiaaDoor.img

namespace Go.Proofs.YtihjjkoddphmiaaDoor.img
open Go.RowKit Go.Proofs.YtihjjkoddphmiaaDoorW.PrintWords Go.Proofs.YtihjjkoddphmiaaDoorW.PrintMore Go.Proofs.YtihjjkoddphmiaaDoor.PImageRound
set_option linter.unusedVariables false
set_option linter.unusedSimpArgs false

/-- A place that a writer lets be. -/
def Safe (w0 : World) (gw : Nat) (w : World) (p : Addr) : Prop := p.block < w0.heap.size ∨ ∃ t cs, p.block ≠ gw ∧ t ≠ 5 ∧ w.heap[p.block]? = some (.cells cs t (0, 0))
theorem Safe.heap {w0 w w1 : World} {gw : Nat} {p : Addr} (h : Safe w0 gw w p) (h0 : Below w0.heap.size w0 w) (h1 : Below w0.heap.size w0 w1) (hs : WStep gw w w1) : w1.heap[p.block]? = w.heap[p.block]? := by
  rcases h with h | ⟨t, cs, hne, ht, hc⟩
  · rw [h0.block _ h, h1.block _ h]
  · rw [hc]; exact hs.keep _ _ _ hne ht hc
theorem cell_block {w w1 : World} {p : Addr} (h : w1.heap[p.block]? = w.heap[p.block]?) : w1.cell? p = w.cell? p := by unfold World.cell?; rw [h]
theorem frozen_block {w w1 : World} {p : Addr} (h : w1.heap[p.block]? = w.heap[p.block]?) : w1.frozen? p = w.frozen? p := by unfold World.frozen?; rw [h]

end Go.Proofs.YtihjjkoddphmiaaDoor.img

namespace Go.Proofs.YtihjjkoddphmiaaDoor.img
open Go.RowKit Go.Proofs.YtihjjkoddphmiaaDoorW.PrintWords Go.Proofs.YtihjjkoddphmiaaDoorW.PrintMore Go.Proofs.YtihjjkoddphmiaaDoor.PImageRound
set_option linter.unusedVariables false
set_option linter.unusedSimpArgs false

/-- What a reader that gives up leaves: the written block (gp, of n cells) has its shape. -/
structure Bd (w0 w : World) (gr gp t n : Nat) (D : Nat → Prop) (w' : World) : Prop where
  bel : Below w0.heap.size w0 w'
  kept : Kept w w' (fun k => k = gr ∨ k = gp ∨ D k)
  blk : ∃ cs', w'.heap[gp]? = some (.cells cs' t (0, 0)) ∧ cs'.size = n
section
variable {w0 w wi w2 : World} {gr gp gx t tx n m : Nat} {D D2 : Nat → Prop} {cs' : Array Value}
theorem Bd.below (h : Bd w0 w gr gp t n D wi) (hb : Below wi.heap.size wi w2) : Bd w0 w gr gp t n D w2 := by
  obtain ⟨c, h1, h2⟩ := h.blk
  exact ⟨below_step h.bel hb, h.kept.below hb, c, blk_below h1 hb, h2⟩
theorem Bd.same (hk : Kept w wi (fun k => k = gr ∨ k = gp ∨ D k)) (h : Bd w0 wi gr gp t n D2 w2) (hD : ∀ k, D2 k → D k ∨ w.heap.size ≤ k) : Bd w0 w gr gp t n D w2 :=
  ⟨h.bel, hk.then_ h.kept (fun k e => e.elim (fun e => .inl (.inl e)) (fun e => e.elim (fun e => .inl (.inr (.inl e))) (fun e => (hD k e).elim (fun e => .inl (.inr (.inr e))) .inr))), h.blk⟩
theorem Bd.new (hk : Kept w wi (fun k => k = gr ∨ k = gp ∨ D k)) (hb : wi.heap[gp]? = some (.cells cs' t (0, 0))) (hn : cs'.size = n) (h : Bd w0 wi gr gx tx m D2 w2) (hgx : w.heap.size ≤ gx) (hne : gp ≠ gr) (hgp : gp < w.heap.size) (hD : ∀ k, D2 k → (D k ∨ w.heap.size ≤ k) ∧ k ≠ gp) : Bd w0 w gr gp t n D w2 :=
  ⟨h.bel, hk.then_ h.kept (fun k e => e.elim (fun e => .inl (.inl e)) (fun e => e.elim (fun e => .inr (by omega)) (fun e => (hD k e).1.elim (fun e => .inl (.inr (.inr e))) .inr))),
    cs', blk_kept hb h.kept (fun e => e.elim hne (fun e => e.elim (fun e => by omega) (fun e => (hD _ e).2 rfl))), hn⟩
end

/-- The reader's block: the bytes, the place. -/
structure Rr (w0 : World) (gr : Nat) (B : Option Addr) (c : Nat) (bs : List Int) (pos : Nat) (w : World) : Prop where
  bel : Below w0.heap.size w0 w
  old : w0.heap.size ≤ gr
  blk : w.heap[gr]? = some (.cells #[.slice B bs.length c, .int .i64 pos] 93 (0, 0))
  row : Kd.C (Kd.int .u8) w0 B bs.length bs
  le : pos ≤ bs.length
theorem Rr.below {w0 w w1 : World} {gr c pos : Nat} {B : Option Addr} {bs : List Int} (h : Rr w0 gr B c bs pos w) (hb : Below w.heap.size w w1) : Rr w0 gr B c bs pos w1 :=
  ⟨below_step h.bel hb, h.old, blk_below h.blk hb, h.row, h.le⟩
theorem Rr.set {w0 w : World} {gr c pos : Nat} {B : Option Addr} {bs : List Int} (h : Rr w0 gr B c bs pos w) {q : Nat} (hq : q ≤ bs.length) : Rr w0 gr B c bs q (w.setCell ⟨gr, 1, none⟩ (.int .i64 q)) :=
  ⟨below_set h.bel h.old, h.old, blk_put h.blk 1 _ rfl, h.row, hq⟩
theorem Rr.other {w0 w : World} {gr c pos : Nat} {B : Option Addr} {bs : List Int} (h : Rr w0 gr B c bs pos w) {g j : Nat} (hg : g ≠ gr) (h0 : w0.heap.size ≤ g) (v : Value) : Rr w0 gr B c bs pos (w.setCell ⟨g, j, none⟩ v) :=
  ⟨below_set h.bel h0, h.old, blk_far h.blk (fun e => hg e.symm) _, h.row, h.le⟩

/-- A world's facts in the place of the world. -/
theorem wp_world {P : Program} {c : Code} {Q : Exit → Act → World → Prop} {a : Act} {w1 : World} {p : World → Prop} (h : p w1) (k : ∀ w2, p w2 → c.wp P Q a w2) : c.wp P Q a w1 := k w1 h

theorem wrap_small {i : Int} (h : -9223372036854775808 ≤ i ∧ i ≤ 9223372036854775807) : wrap64 i = i := by unfold wrap64; omega
end Go.Proofs.YtihjjkoddphmiaaDoor.img

namespace Go.Proofs.YtihjjkoddphmiaaDoor.img
open Go.RowKit Go.Proofs.YtihjjkoddphmiaaDoorW.PrintWords Go.Proofs.YtihjjkoddphmiaaDoorW.PrintMore Go.Proofs.YtihjjkoddphmiaaDoor.PImageRound
set_option linter.unusedVariables false
set_option linter.unusedSimpArgs false

end Go.Proofs.YtihjjkoddphmiaaDoor.img
