import Derived.Test.YtihjjkoddphmiaaGreatDoorNPImageApartx0
import Derived.Test.YtihjjkoddphmiaaGreatDoorRows
import Derived.WalkKit
import Derived.WalkLawsBesides
import Derived.WalkSpells
import Derived.Deep.QuietTactic
import Derived.BigQuiet
import Derived.Test.YtihjjkoddphmiaaGreatDoorNWMore
import Derived.Test.YtihjjkoddphmiaaGreatDoorNWKept
import Derived.StillTailTactics
import Derived.WalkArith
import Derived.Laws.BitsLemmas
namespace Go.Proofs.YtihjjkoddphmiaaGreatDoor.img
open Go.Proofs.YtihjjkoddphmiaaGreatDoor.PImageApart

/-- A graph. -/
structure Gr where
 objs : List S66
 slots : List (List (List Int))
 handles : List Int
 registry : List Int
 queue : List Int
 next : Int

/-- A number's bytes. -/
def enc (n : Nat) : List Int := if n < 128 then [(n : Int)] else ((n % 128 + 128 : Nat) : Int) :: enc (n / 128)
termination_by n
decreasing_by omega

def encI (more : Int) (n : Int) : List Int := enc (n + more).toNat
def encL {α : Type} (each : α → List Int) (l : List α) : List Int := enc l.length ++ l.flatMap each

def encO (last : Int) (o : S66) : List Int := enc (o.f0 - last).toNat ++ encI 0 o.f1 ++ encI 0 o.f2 ++ encL (encI 0) o.f3 ++ encL (encI 0) o.f4
def encOs : Int → List S66 → List Int
 | _, [] => []
 | last, o :: r => encO last o ++ encOs o.f0 r

def head : List Int := [77, 68, 73, 49]
def body (g : Gr) : List Int :=
 head ++ (enc g.next.toNat ++ ((enc g.objs.length ++ encOs 0 g.objs) ++ (encL (encL (encL (encI 0))) g.slots ++ (encL (encI 1) g.handles ++ encL (encI 0) g.queue))))

/-- What reading comes to. -/
inductive Res (α : Type) where
 | ok (a : α) (pos : Nat)
 | bad (pos : Nat) (e : Int)

def Res.bind {α β : Type} (r : Res α) (f : α → Nat → Res β) : Res β :=
 match r with
 | .ok a p => f a p
 | .bad p e => .bad p e

/-- A number from 'from_' on: the round i, at 'pos', what is there so far. -/
def numAt (b : List Int) (most : Nat) (from_ : Nat) : Nat → Nat → Nat → Res Nat
 | i, pos, n =>
  if 10 ≤ i then .bad from_ 161
  else if b.length ≤ pos then .bad b.length 160
  else
   let c := (b.getD pos 0).toNat
   if (i = 9 ∧ 1 < c % 128 ∧ c < 128) ∨ (0 < i ∧ c = 0) then .bad from_ 161
   else if c < 128 then (if most < n + c * 128 ^ i then .bad from_ 161 else .ok (n + c * 128 ^ i) (pos + 1))
   else numAt b most from_ (i + 1) (pos + 1) (n + (c % 128) * 128 ^ i)
termination_by i => 10 - i
decreasing_by omega
def num (b : List Int) (most : Nat) (pos : Nat) : Res Nat := numAt b most pos 0 pos 0

def great : Nat := 4611686018427387905
def any64 : Nat := 18446744073709551615

def int (b : List Int) (more : Int) (pos : Nat) : Res Int := (num b great pos).bind fun n p => .ok ((n : Int) - more) p
def many {σ α : Type} (each : σ → Nat → Res (α × σ)) : Nat → σ → Nat → Res (List α × σ)
 | 0, s, p => .ok ([], s) p
 | n + 1, s, p => (each s p).bind fun x p1 => (many each n x.2 p1).bind fun y p2 => .ok (x.1 :: y.1, y.2) p2
def lst {σ α : Type} (b : List Int) (each : σ → Nat → Res (α × σ)) (s : σ) (pos : Nat) : Res (List α × σ) :=
 (num b great pos).bind fun n p => if b.length - p < n then .bad b.length 160 else many each n s p
def plain (b : List Int) (more : Int) (_ : Unit) (pos : Nat) : Res (Int × Unit) := (int b more pos).bind fun n p => .ok (n, ()) p
def raw (b : List Int) (_ : Unit) (pos : Nat) : Res (Int × Unit) := (num b any64 pos).bind fun n p => .ok ((n : Int), ()) p
def ints (b : List Int) (more : Int) (_ : Unit) (pos : Nat) : Res (List Int × Unit) := lst b (plain b more) () pos
def frames (b : List Int) (_ : Unit) (pos : Nat) : Res (List (List Int) × Unit) := lst b (ints b 0) () pos
def obj (b : List Int) (last : Int) (pos : Nat) : Res (S66 × Int) :=
 (num b great pos).bind fun step p0 =>
 (int b 0 p0).bind fun kind p1 => (int b 0 p1).bind fun site p2 =>
 (ints b 0 () p2).bind fun ptrs p3 => (lst b (raw b) () p3).bind fun raws p4 =>
 .ok (⟨min (last + step) 9223372036854775808, kind, site, ptrs.1, raws.1⟩, min (last + step) 9223372036854775808) p4
def graph (b : List Int) (pos : Nat) : Res Gr :=
 (num b great pos).bind fun next p0 =>
 (lst b (obj b) 0 p0).bind fun objs p1 => (lst b (frames b) () p1).bind fun slots p2 =>
 (ints b 1 () p2).bind fun handles p3 => (ints b 0 () p3).bind fun queue p4 =>
 .ok ⟨objs.1, slots.1, handles.1, [], queue.1, next⟩ p4
end Go.Proofs.YtihjjkoddphmiaaGreatDoor.img

namespace Go.Proofs.YtihjjkoddphmiaaGreatDoor.img
open Go.Proofs.YtihjjkoddphmiaaGreatDoor.PImageApart
set_option linter.unusedSimpArgs false
set_option linter.unusedVariables false

/-- From 'pos' on stands 'xs'. -/
def At (b : List Int) (pos : Nat) (xs : List Int) : Prop := ∃ rest, b.drop pos = xs ++ rest

theorem enc_lt {n : Nat} (h : n < 128) : enc n = [(n : Int)] := by rw [enc, if_pos h]
theorem enc_ge {n : Nat} (h : ¬ n < 128) : enc n = ((n % 128 + 128 : Nat) : Int) :: enc (n / 128) := by rw [enc, if_neg h]
section
variable {σ α : Type}
def encS (E : σ → α → List Int) (next : σ → α → σ) : σ → List α → List Int
 | _, [] => []
 | s, x :: r => E s x ++ encS E next (next s x) r
def lastS (next : σ → α → σ) : σ → List α → σ
 | s, [] => s
 | s, x :: r => lastS next (next s x) r
def allS (next : σ → α → σ) (ok : σ → α → Prop) : σ → List α → Prop
 | _, [] => True
 | s, x :: r => ok s x ∧ allS next ok (next s x) r
end

theorem encOs_eq : ∀ (l : List S66) (last : Int), encOs last l = encS encO (fun _ o => o.f0) last l
 | [], _ => rfl
 | o :: r, last => by rw [encOs, encS, encOs_eq r]
end Go.Proofs.YtihjjkoddphmiaaGreatDoor.img

namespace Go.Proofs.YtihjjkoddphmiaaGreatDoor.img
open Go.Proofs.YtihjjkoddphmiaaGreatDoor.PImageApart
set_option linter.unusedSimpArgs false
set_option linter.unusedVariables false

/-- All are bytes. -/
def Bytes (b : List Int) : Prop := ∀ x ∈ b, 0 ≤ x ∧ x < 256

theorem At.join {b : List Int} {pos : Nat} {xs ys : List Int} (h : At b pos xs) (k : At b (pos + xs.length) ys) : At b pos (xs ++ ys) := by
 obtain ⟨r, h⟩ := h
 obtain ⟨q, k⟩ := k
 refine ⟨q, ?_⟩
 rw [← List.drop_drop, h, List.drop_left] at k
 rw [h, k, List.append_assoc]
theorem At.nil (b : List Int) (pos : Nat) : At b pos [] := ⟨b.drop pos, rfl⟩
theorem At.cons {b : List Int} {pos : Nat} {x : Int} {xs : List Int} (hp : pos < b.length) (hx : b.getD pos 0 = x) (h : At b (pos + 1) xs) : At b pos (x :: xs) := by
 have h1 : At b pos [x] := by
  refine ⟨b.drop (pos + 1), ?_⟩
  rw [List.drop_eq_getElem_cons hp]
  rw [List.getD_eq_getElem?_getD, List.getElem?_eq_getElem hp] at hx
  simp at hx
  rw [hx]
  rfl
 exact h1.join h

theorem byte_at {b : List Int} (hb : Bytes b) {pos : Nat} (hp : pos < b.length) : b.getD pos 0 = (((b.getD pos 0).toNat : Nat) : Int) ∧ (b.getD pos 0).toNat < 256 := by
 have h : b.getD pos 0 ∈ b := by
  rw [List.getD_eq_getElem?_getD, List.getElem?_eq_getElem hp]
  exact List.getElem_mem hp
 have := hb _ h
 omega

theorem numAt_says {b : List Int} (hb : Bytes b) (most from_ : Nat) : ∀ (d i pos acc n p : Nat), 10 - i = d → numAt b most from_ i pos acc = .ok n p →
  ∃ m, n = acc + m * 128 ^ i ∧ At b pos (enc m) ∧ p = pos + (enc m).length ∧ (0 < i → 0 < m) ∧ n ≤ most := by
 intro d
 induction d with
 | zero =>
  intro i pos acc n p hd h
  rw [numAt, if_pos (by omega)] at h
  cases h
 | succ d ih =>
  intro i pos acc n p hd h
  rw [numAt, if_neg (by omega)] at h
  by_cases hp : b.length ≤ pos
  ·rw [if_pos hp] at h
   cases h
  rw [if_neg hp] at h
  obtain ⟨hx, hc⟩ := byte_at hb (show pos < b.length by omega)
  generalize (b.getD pos 0).toNat = c at *
  simp only at h
  by_cases hw : (i = 9 ∧ 1 < c % 128 ∧ c < 128) ∨ (0 < i ∧ c = 0)
  ·rw [if_pos hw] at h
   cases h
  rw [if_neg hw] at h
  by_cases hlt : c < 128
  ·rw [if_pos hlt] at h
   by_cases hm : most < acc + c * 128 ^ i
   ·rw [if_pos hm] at h
    cases h
   ·rw [if_neg hm] at h
    injection h with h1 h2
    refine ⟨c, h1.symm, ?_, ?_, ?_, by omega⟩
    ·rw [enc_lt hlt]
     exact At.cons (by omega) hx (At.nil _ _)
    ·rw [enc_lt hlt]
     simp
     omega
    ·intro hi
     omega
  ·rw [if_neg hlt] at h
   obtain ⟨m, h1, h2, h3, h4, h5⟩ := ih (i + 1) (pos + 1) _ n p (by omega) h
   have hm := h4 (by omega)
   have hge : ¬ (c % 128 + 128 * m) < 128 := by omega
   have e1 : (c % 128 + 128 * m) % 128 = c % 128 := by omega
   have e2 : (c % 128 + 128 * m) / 128 = m := by omega
   refine ⟨c % 128 + 128 * m, ?_, ?_, ?_, fun _ => by omega, h5⟩
   ·rw [h1, Nat.pow_succ, Nat.add_mul, Nat.add_assoc]
    congr 2
    rw [Nat.mul_comm 128 m, Nat.mul_assoc, Nat.mul_comm 128]
   ·rw [enc_ge hge, e1, e2]
    refine At.cons (by omega) ?_ h2
    rw [hx]
    omega
   ·rw [enc_ge hge, e2, List.length_cons]
    omega
theorem num_says {b : List Int} (hb : Bytes b) {most pos n p : Nat} (h : num b most pos = .ok n p) : At b pos (enc n) ∧ p = pos + (enc n).length ∧ n ≤ most := by
 obtain ⟨m, h1, h2, h3, -, h5⟩ := numAt_says hb most pos 10 0 pos 0 n p rfl h
 simp at h1
 subst h1
 exact ⟨h2, h3, h5⟩
theorem bind_ok {α β : Type} {r : Res α} {f : α → Nat → Res β} {y : β} {q : Nat} (h : r.bind f = .ok y q) : ∃ x p, r = .ok x p ∧ f x p = .ok y q := by
 cases r with
 | ok a p => exact ⟨a, p, rfl, h⟩
 | bad p e => simp [Res.bind] at h
section
variable {σ α : Type}
end

end Go.Proofs.YtihjjkoddphmiaaGreatDoor.img

namespace Go.Proofs.YtihjjkoddphmiaaGreatDoor.img
open Go.Proofs.YtihjjkoddphmiaaGreatDoor.PImageApart
set_option linter.unusedSimpArgs false
set_option linter.unusedVariables false

section
variable {σ α : Type}
end
/-- The checksum. -/
def fstep (h c : Nat) : Nat := ((h ^^^ c) * 16777619) % 4294967296
def fnv (l : List Int) : Nat := l.foldl (fun h c => fstep h c.toNat) 2166136261
theorem xor_lt {x c : Nat} (hx : x < 4294967296) (hc : c < 256) : x ^^^ c < 4294967296 := by
 have : (4294967296 : Nat) = 2 ^ 32 := by decide
 rw [this] at hx ⊢
 exact Nat.xor_lt_two_pow hx (by omega)
theorem fstep_lt (h c : Nat) : fstep h c < 4294967296 := Nat.mod_lt _ (by omega)
def fnvFrom (s : Nat) (l : List Int) : Nat := l.foldl (fun h c => fstep h c.toNat) s
theorem fnvFrom_lt (l : List Int) (s : Nat) (hs : s < 4294967296) : fnvFrom s l < 4294967296 := by
 induction l generalizing s with
 | nil => exact hs
 | cons c r ih => exact ih _ (fstep_lt _ _)
end Go.Proofs.YtihjjkoddphmiaaGreatDoor.img

namespace Go.Proofs.YtihjjkoddphmiaaGreatDoor.img
open Go.RowKit Go.Proofs.YtihjjkoddphmiaaGreatDoorW.PrintWords Go.Proofs.YtihjjkoddphmiaaGreatDoorW.PrintMore Go.Proofs.YtihjjkoddphmiaaGreatDoor.PImageApart
set_option linter.unusedVariables false
set_option linter.unusedSimpArgs false

theorem info5 : (Tryz.prog.info? 5).map (fun i => (i.zero, i.size, i.bytes)) = some (some (.int .u8 0), 1, 1) := by kernel_rfl

/-- The writer's block and its bytes. -/
structure Wt (w0 : World) (gw : Nat) (w : World) (bs : List Int) : Prop where
 bel : Below w0.heap.size w0 w
 old : w0.heap.size ≤ gw
 row : ∃ v, w.heap[gw]? = some (.cells #[v] 97 (0, 0)) ∧ Kd.R (Kd.int .u8) 5 w w0.heap.size (fun _ => True) v bs
/-- What is no row of bytes, and not the writer, stays. -/
structure WStep (gw : Nat) (w w1 : World) : Prop where
 size : w.heap.size ≤ w1.heap.size
 keep : ∀ k t cs, k ≠ gw → t ≠ 5 → w.heap[k]? = some (.cells cs t (0, 0)) → w1.heap[k]? = some (.cells cs t (0, 0))
theorem WStep.refl (gw : Nat) (w : World) : WStep gw w w := ⟨Nat.le_refl _, fun _ _ _ _ _ h => h⟩
theorem WStep.trans {gw : Nat} {w w1 w2 : World} (h : WStep gw w w1) (h1 : WStep gw w1 w2) : WStep gw w w2 := ⟨Nat.le_trans h.size h1.size, fun k t cs hk ht hc => h1.keep k t cs hk ht (h.keep k t cs hk ht hc)⟩
theorem WStep.of_below {gw : Nat} {w w1 : World} (h : Below w.heap.size w w1) : WStep gw w w1 := ⟨h.size, fun k t cs hk ht hc => (h.block k (blk_lt hc)).trans hc⟩
theorem Wt.after {w0 : World} {gw : Nat} {w w1 : World} {bs : List Int} (h : Wt w0 gw w bs) (hb : Below w.heap.size w w1) : Wt w0 gw w1 bs := by
 obtain ⟨v, h1, h2⟩ := h.row
 exact ⟨below_step h.bel hb, h.old, v, blk_below h1 hb, Kd.R_below h2 hb⟩

/-- A byte is laid on. -/
theorem Wt.push {w0 : World} {gw : Nat} {w w1 : World} {v v1 : Value} {bs : List Int} {x : Int} (h0 : w0.heap.size ≤ gw) (h1 : w.heap[gw]? = some (.cells #[v] 97 (0, 0))) (h2 : Kd.R (Kd.int .u8) 5 w w0.heap.size (fun _ => True) v bs) (hg : w.grownBy w1 v.ownBlock) (hb : Below w0.heap.size w0 w1) (hW : Kd.R (Kd.int .u8) 5 w1 w0.heap.size (fun _ => True) v1 (bs ++ [x])) :
  Wt w0 gw (w1.setCell ⟨gw, 0, none⟩ v1) (bs ++ [x]) ∧ WStep gw w (w1.setCell ⟨gw, 0, none⟩ v1) := by
 have e2 := blk_grown h1 hg (Kd.R_ne h2 h1 (by decide))
 refine ⟨⟨below_set hb h0, h0, v1, one_setCell e2, Kd.R_set hW e2 (by decide) _ _⟩, ?_, ?_⟩
 ·have := hg.size
  simpa using this
 ·intro k t cs hk ht hc
  exact blk_far (blk_grown hc hg (Kd.R_ne h2 hc (fun e => ht e.symm))) hk _

theorem enc_len : ∀ (k n : Nat), n < 128 ^ (k + 1) → (enc n).length ≤ k + 1 := by
 intro k
 induction k with
 | zero => intro n h; rw [enc_lt (by simpa using h)]; simp
 | succ k ih =>
  intro n h
  by_cases h1 : n < 128
  ·rw [enc_lt h1]; simp
  ·rw [enc_ge h1]
   have h2 : n / 128 < 128 ^ (k + 1) := by
    rw [Nat.div_lt_iff_lt_mul (by decide)]
    rw [Nat.pow_succ] at h
    exact h
   have := ih (n / 128) h2
   simp only [List.length_cons]
   omega
theorem enc_ten {n : Nat} (h : n < 18446744073709551616) : (enc n).length ≤ 10 := enc_len 9 n (Nat.lt_trans h (by decide))

set_option maxRecDepth 1000000 in
theorem or_128 : ∀ m : Fin 256, bits BinOp.or IntKind.u8 ((m.val : Nat) : Int) 128 = ((m.val % 128 + 128 : Nat) : Int) := by decide
theorem or_byte (y : Nat) : bits BinOp.or IntKind.u8 ((y : Int) % 256) 128 = ((y % 128 + 128 : Nat) : Int) := by
 have h := or_128 ⟨y % 256, Nat.mod_lt _ (by decide)⟩
 have e : ((y : Int) % 256) = ((y % 256 : Nat) : Int) := by omega
 rw [e, h]
 congr 1
 simp only
 omega

set_option maxHeartbeats 4000000 in
set_option maxRecDepth 100000 in
theorem wnumber_any (w0 : World) (gw : Nat) (p : Addr) (x : Nat) (most : Int) (bs : List Int) (w : World) (h : Wt w0 gw w bs) (hp : w.cell? p = some (.int .u64 x)) (hx : x < 18446744073709551616) (hbs : bs.length ≤ 1000000000000) :
  Calls Tryz.prog 154 #[.pointer (some ⟨gw, 0, none⟩), .pointer (some p), .int .u64 most] w fun e w' => e = .returned (.tuple #[]) ∧ Wt w0 gw w' (bs ++ enc x) ∧ WStep gw w w' := by
 have HW := Aside0.mk h
 clear h
 have HS := Aside0.mk (WStep.refl gw w)
 obtain ⟨res, hres⟩ : ∃ r, bs ++ enc x = r := ⟨_, rfl⟩
 have HRES := Aside0.mk hres
 have hrl : res.length ≤ 1000000000011 := by
  have := enc_ten hx
  rw [← hres, List.length_append]
  omega
 rw [hres]
 clear hres
 go_enter Tryz.func154, Tryz.ntmps154
 go_wp2
 go_loopw [6] (fun a wr => ∃ (y : Nat) (us : List Int), a = .int .u64 y ∧ y < 18446744073709551616 ∧ Aside0 (us ++ enc y = res) ∧ Aside0 (Wt w0 gw wr us) ∧ Aside0 (WStep gw w wr)) (fun a _ => (intOf a).toNat)
 case atStart => exact ⟨x, bs, rfl, hx, HRES, HW, HS⟩
 case round =>
  clear HW HS HRES
  obtain ⟨y, us, rfl, hy, HRES, HW, HS⟩ := hrel
  obtain ⟨v, h1, h2⟩ := HW.out.row
  have hc := cell_of_one h1
  have HH1 := Aside0.mk h1
  have HH2 := Aside0.mk h2
  clear h1 h2
  have hul : us.length ≤ 1000000000011 := by
   have e := congrArg List.length HRES.out
   rw [List.length_append] at e
   omega
  obtain ⟨Ab, cb, rfl⟩ := Kd.R_slice HH2.out
  by_cases hlt : y < 128
  ·have HE : Aside0 (us ++ [(y : Int)] = res) := ⟨by have := HRES.out; rw [enc_lt hlt] at this; exact this⟩
   go_wp2_with (first | (refine Kd.R_append (Kd.int .u8) (w0 := w0) w0.heap.size rfl (.tmp 30) (.tmp 33) 40 5 (.int .u8 0) 1 rfl Tryz.underlying40 info5 rfl (by decide) (by omega) (.slice Ab us.length cb) us (y : Int) [.int .u8 (y : Int)] (fun _ => True) (fun _ => False) rfl (by first | (go_simp; done) | (go_simp; rfl)) rfl (fun _ hk => hk.elim) (fun _ _ => trivial) HH2.out HW.out.bel (below_size HW.out.bel) (by omega) ?_; intro v1 w3 ho hb hg hat; obtain ⟨Av, cv, rfl⟩ := Kd.R_slice ho; have e3 := blk_grown HH1.out hg (Kd.R_ne HH2.out HH1.out (by decide)); have hvw3 := cell_of_one e3; have hfw3 := free_of_one e3; have HP := Aside0.mk (Wt.push HW.out.old HH1.out HH2.out hg hb ho); clear ho hb hg hat e3))
   go_end0
   have := HP.out
   rw [List.length_append, List.length_singleton] at this
   rw [HE.out] at this
   exact ⟨rfl, this.1, HS.out.trans this.2⟩
  ·obtain ⟨z, hz⟩ : ∃ z, bits BinOp.or IntKind.u8 ((y : Int) % 256) 128 = z := ⟨_, rfl⟩
   have HE : Aside0 ((us ++ [z]) ++ enc (y / 128) = res) := ⟨by have := HRES.out; rw [enc_ge hlt, ← or_byte, hz] at this; simpa using this⟩
   go_wp2_with (first | (refine Kd.R_append (Kd.int .u8) (w0 := w0) w0.heap.size rfl (.tmp 18) (.tmp 22) 40 5 (.int .u8 0) 1 rfl Tryz.underlying40 info5 rfl (by decide) (by omega) (.slice Ab us.length cb) us z [.int .u8 z] (fun _ => True) (fun _ => False) rfl (by first | (go_simp; done) | (go_simp; rfl)) rfl (fun _ hk => hk.elim) (fun _ _ => trivial) HH2.out HW.out.bel (below_size HW.out.bel) (by omega) ?_; intro v1 w3 ho hb hg hat; obtain ⟨Av, cv, rfl⟩ := Kd.R_slice ho; have e3 := blk_grown HH1.out hg (Kd.R_ne HH2.out HH1.out (by decide)); have hvw3 := cell_of_one e3; have hfw3 := free_of_one e3; have HP := Aside0.mk (Wt.push HW.out.old HH1.out HH2.out hg hb ho); clear ho hb hg hat e3))
   go_roundw
   case rel =>
    have := HP.out
    rw [List.length_append, List.length_singleton] at this
    exact ⟨y / 128, us ++ [z], by go_num, by omega, HE, ⟨this.1⟩, ⟨HS.out.trans this.2⟩⟩
   case measure => simp [intOf]; omega
end Go.Proofs.YtihjjkoddphmiaaGreatDoor.img

namespace Go.Proofs.YtihjjkoddphmiaaGreatDoor.img
open Go.RowKit Go.Proofs.YtihjjkoddphmiaaGreatDoorW.PrintWords Go.Proofs.YtihjjkoddphmiaaGreatDoorW.PrintMore Go.Proofs.YtihjjkoddphmiaaGreatDoor.PImageApart
set_option linter.unusedVariables false
set_option linter.unusedSimpArgs false

theorem setCell_id {w : World} {p : Addr} {v : Value} (h : w.cell? p = some v) : w.setCell p v = w := by
 have e : (w.setCell p v).heap = w.heap := by
  apply Array.ext_getElem?
  intro k
  simp only [World.setCell, Array.getElem?_modify]
  by_cases hk : p.block = k
  ·subst hk
   rw [if_pos rfl]
   unfold World.cell? at h
   cases hb : w.heap[p.block]? with
   | none => rfl
   | some o =>
    rw [hb] at h
    cases o with
    | cells c t fr =>
     simp only at h
     simp only [Option.map_some]
     by_cases hs : p.spot.isSome = true
     ·rw [if_pos hs]
     ·rw [if_neg hs] at h ⊢
      have e2 : c.setIfInBounds p.off v = c := by
       apply Array.ext_getElem?
       intro j
       rw [Array.getElem?_setIfInBounds]
       by_cases hj : p.off = j
       ·subst hj
        rw [if_pos rfl, h]
        have := (Array.getElem?_eq_some_iff.1 h).1
        rw [if_pos this]
       ·rw [if_neg hj]
      rw [e2]
    | _ => rfl
  ·rw [if_neg hk]
 have : w.setCell p v = { w with heap := (w.setCell p v).heap } := rfl
 rw [this, e]

/-- A place that a writer lets be. -/
def Safe (w0 : World) (gw : Nat) (w : World) (p : Addr) : Prop := p.block < w0.heap.size ∨ ∃ t cs, p.block ≠ gw ∧ t ≠ 5 ∧ w.heap[p.block]? = some (.cells cs t (0, 0))
theorem Safe.heap {w0 w w1 : World} {gw : Nat} {p : Addr} (h : Safe w0 gw w p) (h0 : Below w0.heap.size w0 w) (h1 : Below w0.heap.size w0 w1) (hs : WStep gw w w1) : w1.heap[p.block]? = w.heap[p.block]? := by
 rcases h with h | ⟨t, cs, hne, ht, hc⟩
 ·rw [h0.block _ h, h1.block _ h]
 ·rw [hc]; exact hs.keep _ _ _ hne ht hc
theorem Safe.move {w0 w w1 : World} {gw : Nat} {p : Addr} (h : Safe w0 gw w p) (hs : WStep gw w w1) : Safe w0 gw w1 p := by
 rcases h with h | ⟨t, cs, hne, ht, hc⟩
 ·exact .inl h
 ·exact .inr ⟨t, cs, hne, ht, hs.keep _ _ _ hne ht hc⟩
theorem cell_block {w w1 : World} {p : Addr} (h : w1.heap[p.block]? = w.heap[p.block]?) : w1.cell? p = w.cell? p := by unfold World.cell?; rw [h]
theorem frozen_block {w w1 : World} {p : Addr} (h : w1.heap[p.block]? = w.heap[p.block]?) : w1.frozen? p = w.frozen? p := by unfold World.frozen?; rw [h]

theorem method_w (a : Addr) (w : World) : (method 291 95 (.pointer (some a)) "midden/image.number").run Tryz.prog w = .ok (154, .pointer (some a)) w := by kernel_rfl
theorem method_r (a : Addr) (w : World) : (method 291 82 (.pointer (some a)) "midden/image.number").run Tryz.prog w = .ok (153, .pointer (some a)) w := by kernel_rfl

set_option maxHeartbeats 4000000 in
set_option maxRecDepth 100000 in
theorem winteger_any (w0 : World) (gw : Nat) (p : Addr) (n more : Int) (bs : List Int) (w : World) (h : Wt w0 gw w bs) (hp : w.cell? p = some (.int .i64 n)) (hf : w.frozen? p = false) (hsf : Safe w0 gw w p) (h0 : 0 ≤ n + more) (h1 : n + more ≤ 4611686018427387905) (hm : 0 ≤ more ∧ more ≤ 1) (hbs : bs.length ≤ 1000000000000) :
  Calls Tryz.prog 59 #[.iface 95 (.pointer (some ⟨gw, 0, none⟩)), .pointer (some p), .int .i64 more] w fun e w' => e = .returned (.tuple #[]) ∧ Wt w0 gw w' (bs ++ encI more n) ∧ WStep gw w w' := by
 have hmw := method_w ⟨gw, 0, none⟩
 have HB : Aside0 (Below w.heap.size w (w.alloc (.cells #[.int .u64 (n + more)] 42))) := ⟨below_alloc (Below.refl _ _) _⟩
 have HW := Aside0.mk h
 have HSF := Aside0.mk hsf
 have HP := Aside0.mk hp
 have HF := Aside0.mk hf
 have HC : Aside0 ((w.alloc (.cells #[.int .u64 (n + more)] 42)).heap[w.heap.size]? = some (.cells #[.int .u64 (n + more)] 42 (0, 0))) := ⟨heap_alloc_new w _⟩
 have HCN : Aside0 (∀ wx, Wt w0 gw wx bs → wx.cell? ⟨w.heap.size, 0, none⟩ = some (.int .u64 (n + more)) → Calls Tryz.prog 154 #[.pointer (some ⟨gw, 0, none⟩), .pointer (some ⟨w.heap.size, 0, none⟩), .int .u64 4611686018427387905] wx fun e w' => e = .returned (.tuple #[]) ∧ Wt w0 gw w' (bs ++ encI more n) ∧ WStep gw wx w') := ⟨fun wx hwx hc => by
  have := wnumber_any w0 gw ⟨w.heap.size, 0, none⟩ (n + more).toNat 4611686018427387905 bs wx hwx (by rw [hc]; congr 2; omega) (by omega) hbs
  exact this⟩
 have hgw : w.heap.size ≠ gw := by
  obtain ⟨v, hv, -⟩ := h.row
  have := blk_lt hv
  omega
 have HNE := Aside0.mk hgw
 clear h hsf hgw hf
 go_enter Tryz.func59, Tryz.ntmps59
 go_wp2_with (fail)
 refine (HCN.out _ (HW.out.after HB.out) (cell_of_one HC.out)).mono ?_
 rintro en w2 ⟨rfl, hw2, hs2⟩
 have HW2 := Aside0.mk hw2
 have HS2 := Aside0.mk hs2
 have hcx := cell_of_one (hs2.keep _ _ _ HNE.out (by decide) HC.out)
 have hb1 : (w.alloc (.cells #[.int .u64 (n + more)] 42)).heap[p.block]? = w.heap[p.block]? := HB.out.block _ (World.block_lt_of_cell? w _ hp)
 have hb2 := (Safe.heap (HSF.out.move (WStep.of_below HB.out)) (HW.out.after HB.out).bel hw2.bel hs2).trans hb1
 have hp2 : w2.cell? p = some (.int .i64 n) := (cell_block hb2).trans hp
 have hf2 : w2.frozen? p = false := (frozen_block hb2).trans HF.out
 have hid := setCell_id hp2
 have HID := Aside0.mk hid
 clear hw2 hs2 hb1 hb2 hid hp
 go_wp2
 go_end0
 rw [HID.out]
 exact ⟨rfl, HW2.out, (WStep.of_below HB.out).trans HS2.out⟩
end Go.Proofs.YtihjjkoddphmiaaGreatDoor.img

namespace Go.Proofs.YtihjjkoddphmiaaGreatDoor.img
open Go.RowKit Go.Proofs.YtihjjkoddphmiaaGreatDoorW.PrintWords Go.Proofs.YtihjjkoddphmiaaGreatDoorW.PrintMore Go.Proofs.YtihjjkoddphmiaaGreatDoor.PImageApart
set_option linter.unusedVariables false
set_option linter.unusedSimpArgs false

/-- What a reader gives up with. -/
def failed (q : Nat) (c : Int) : List PanicEntry := [{ v := .iface 81 (.agg #[.int .i64 q, .int .i64 c]), recovered := false }]
/-- A reader's call: it comes to what the plain form comes to. -/
def RPost {α : Type} (Bp : World → Prop) (r : Res α) (K : α → Nat → World → Prop) (e : Ending) (w' : World) : Prop :=
 match r with
 | .ok a q => e = .returned (.tuple #[]) ∧ K a q w'
 | .bad q c => e = .panicked (failed q c) ∧ Bp w'
theorem RPost.of_bad {α : Type} {Bp : World → Prop} {r : Res α} {K : α → Nat → World → Prop} {q : Nat} {c : Int} {w' : World} (hr : r = .bad q c) (hb : Bp w') : RPost Bp r K (.panicked (failed q c)) w' := by
 rw [hr]; exact ⟨rfl, hb⟩
theorem RPost.of_ok {α : Type} {Bp : World → Prop} {r : Res α} {K : α → Nat → World → Prop} {q : Nat} {a : α} {w' : World} (hr : r = .ok a q) (hk : K a q w') : RPost Bp r K (.returned (.tuple #[])) w' := by
 rw [hr]; exact ⟨rfl, hk⟩
/-- What a reader that gives up leaves: the written block (gp, of n cells) has its shape. -/
structure Bd (w0 w : World) (gr gp t n : Nat) (D : Nat → Prop) (w' : World) : Prop where
 bel : Below w0.heap.size w0 w'
 kept : Kept w w' (fun k => k = gr ∨ k = gp ∨ D k)
 blk : ∃ cs', w'.heap[gp]? = some (.cells cs' t (0, 0)) ∧ cs'.size = n
section
variable {w0 w wi w2 : World} {gr gp gx t tx n m : Nat} {D D2 : Nat → Prop} {cs' : Array Value}
theorem Bd.below (h : Bd w0 w gr gp t n D wi) (hb : Below wi.heap.size wi w2) : Bd w0 w gr gp t n D w2 := by
 obtain ⟨c, h1, h2⟩ := h.blk
 exact ⟨below_step h.bel hb, h.kept.below hb, c, blk_below h1 hb, h2⟩
theorem Bd.same (hk : Kept w wi (fun k => k = gr ∨ k = gp ∨ D k)) (h : Bd w0 wi gr gp t n D2 w2) (hD : ∀ k, D2 k → D k ∨ w.heap.size ≤ k) : Bd w0 w gr gp t n D w2 :=
 ⟨h.bel, hk.then_ h.kept (fun k e => e.elim (fun e => .inl (.inl e)) (fun e => e.elim (fun e => .inl (.inr (.inl e))) (fun e => (hD k e).elim (fun e => .inl (.inr (.inr e))) .inr))), h.blk⟩
theorem Bd.new (hk : Kept w wi (fun k => k = gr ∨ k = gp ∨ D k)) (hb : wi.heap[gp]? = some (.cells cs' t (0, 0))) (hn : cs'.size = n) (h : Bd w0 wi gr gx tx m D2 w2) (hgx : w.heap.size ≤ gx) (hne : gp ≠ gr) (hgp : gp < w.heap.size) (hD : ∀ k, D2 k → (D k ∨ w.heap.size ≤ k) ∧ k ≠ gp) : Bd w0 w gr gp t n D w2 :=
 ⟨h.bel, hk.then_ h.kept (fun k e => e.elim (fun e => .inl (.inl e)) (fun e => e.elim (fun e => .inr (by omega)) (fun e => (hD k e).1.elim (fun e => .inl (.inr (.inr e))) .inr))),
  cs', blk_kept hb h.kept (fun e => e.elim hne (fun e => e.elim (fun e => by omega) (fun e => (hD _ e).2 rfl))), hn⟩
end

/-- The reader's block: the bytes, the place. -/
structure Rr (w0 : World) (gr : Nat) (B : Option Addr) (c : Nat) (bs : List Int) (pos : Nat) (w : World) : Prop where
 bel : Below w0.heap.size w0 w
 old : w0.heap.size ≤ gr
 blk : w.heap[gr]? = some (.cells #[.slice B bs.length c, .int .i64 pos] 84 (0, 0))
 row : Kd.C (Kd.int .u8) w0 B bs.length bs
 le : pos ≤ bs.length
theorem Rr.below {w0 w w1 : World} {gr c pos : Nat} {B : Option Addr} {bs : List Int} (h : Rr w0 gr B c bs pos w) (hb : Below w.heap.size w w1) : Rr w0 gr B c bs pos w1 :=
 ⟨below_step h.bel hb, h.old, blk_below h.blk hb, h.row, h.le⟩
theorem Rr.set {w0 w : World} {gr c pos : Nat} {B : Option Addr} {bs : List Int} (h : Rr w0 gr B c bs pos w) {q : Nat} (hq : q ≤ bs.length) : Rr w0 gr B c bs q (w.setCell ⟨gr, 1, none⟩ (.int .i64 q)) :=
 ⟨below_set h.bel h.old, h.old, blk_put h.blk 1 _ rfl, h.row, hq⟩
theorem Rr.other {w0 w : World} {gr c pos : Nat} {B : Option Addr} {bs : List Int} (h : Rr w0 gr B c bs pos w) {g j : Nat} (hg : g ≠ gr) (h0 : w0.heap.size ≤ g) (v : Value) : Rr w0 gr B c bs pos (w.setCell ⟨g, j, none⟩ v) :=
 ⟨below_set h.bel h0, h.old, blk_far h.blk (fun e => hg e.symm) _, h.row, h.le⟩

set_option maxHeartbeats 400000 in
theorem rshort_any (w0 : World) (gr c pos : Nat) (B : Option Addr) (bs : List Int) (w : World) (h : Rr w0 gr B c bs pos w) :
  Calls Tryz.prog 57 #[.pointer (some ⟨gr, 0, none⟩)] w fun e w' => e = .panicked (failed bs.length 160) ∧ w = w' := by
 have hc0 : w.cell? ⟨gr, 0, none⟩ = some (.slice B bs.length c) := (blk_cell h.blk 0).trans rfl
 clear h
 go_enter Tryz.func57, Tryz.ntmps57
 go_wp2
 exact ⟨rfl, rfl, rfl⟩

theorem pow128 (i : Nat) : 128 ^ i = 2 ^ (7 * i) := by rw [Nat.pow_mul]
theorem wraps_u64 (n : Int) (h₀ : 0 ≤ n) (h₁ : n < 2 ^ 64) : IntKind.u64.wrap n = n := by
 show n % 18446744073709551616 = n
 omega
/-- One part more of a number. -/
theorem or_part (av z i : Nat) (h : i ≤ 9) (hav : av < 18446744073709551616) (hz : z < 128) :
  ∃ r : Nat, bits BinOp.or IntKind.u64 (av : Int) (IntKind.u64.wrap ((z : Int) * 2 ^ (7 * i))) = (r : Int) ∧ r < 18446744073709551616 ∧ (av < 128 ^ i → (i ≤ 8 ∨ z ≤ 1) → r = av + z * 128 ^ i ∧ (i ≤ 8 → r < 128 ^ (i + 1))) := by
 have hw : IntKind.u64.wrap ((z : Int) * 2 ^ (7 * i)) = (((z * 2 ^ (7 * i)) % 18446744073709551616 : Nat) : Int) := by
  show ((z : Int) * 2 ^ (7 * i)) % 18446744073709551616 = _
  simp
 have hb := (bits_nat .u64 64 (by decide) wraps_u64 av ((z * 2 ^ (7 * i)) % 18446744073709551616) (by simpa using hav) (by simpa using Nat.mod_lt _ (by decide))).2
 refine ⟨av ||| ((z * 2 ^ (7 * i)) % 18446744073709551616), by rw [hw]; exact hb, ?_, ?_⟩
 ·have := Nat.or_lt_two_pow (n := 64) (x := av) (y := (z * 2 ^ (7 * i)) % 18446744073709551616) (by simpa using hav) (by simpa using Nat.mod_lt _ (by decide))
  simpa using this
 ·intro ha hzi
  have hlt : z * 2 ^ (7 * i) < 18446744073709551616 := by
   rcases hzi with hi | hz1
   ·have h1 : 2 ^ (7 * i) ≤ 2 ^ 56 := Nat.pow_le_pow_right (by decide) (by omega)
    have h2 : z * 2 ^ (7 * i) ≤ 128 * 2 ^ 56 := Nat.mul_le_mul (by omega) h1
    exact Nat.lt_of_le_of_lt h2 (by decide)
   ·have h1 : 2 ^ (7 * i) ≤ 2 ^ 63 := Nat.pow_le_pow_right (by decide) (by omega)
    have h2 : z * 2 ^ (7 * i) ≤ 1 * 2 ^ 63 := Nat.mul_le_mul hz1 h1
    exact Nat.lt_of_le_of_lt h2 (by decide)
  rw [pow128] at ha
  have e : av ||| z * 2 ^ (7 * i) = av + z * 2 ^ (7 * i) := by
   have := Nat.two_pow_add_eq_or_of_lt ha z
   rw [Nat.mul_comm z, Nat.or_comm, ← this, Nat.add_comm]
  rw [Nat.mod_eq_of_lt hlt, e, pow128]
  refine ⟨rfl, fun hi => ?_⟩
  rw [pow128, show 7 * (i + 1) = 7 * i + 7 from by omega, Nat.pow_add]
  have h3 : (z + 1) * 2 ^ (7 * i) ≤ 128 * 2 ^ (7 * i) := Nat.mul_le_mul (by omega) (Nat.le_refl _)
  rw [Nat.add_mul] at h3
  have e7 : (2 : Nat) ^ 7 = 128 := by decide
  rw [e7]
  omega

theorem fin_part {av acc y i r : Nat} (h : av < 128 ^ i → (i ≤ 8 ∨ y % 128 ≤ 1) → r = av + (y % 128) * 128 ^ i ∧ (i ≤ 8 → r < 128 ^ (i + 1))) (ha : av = acc ∧ acc < 128 ^ i) (hi : i ≤ 8 ∨ y ≤ 1) (hy : y < 128) : r = acc + y * 128 ^ i := by
 obtain ⟨rfl, ha⟩ := ha
 have e := Nat.mod_eq_of_lt hy
 rw [e] at h
 exact (h ha hi).1
theorem next_part {av acc z i r : Nat} (h : av < 128 ^ i → (i ≤ 8 ∨ z ≤ 1) → r = av + z * 128 ^ i ∧ (i ≤ 8 → r < 128 ^ (i + 1))) (ha : av = acc ∧ acc < 128 ^ i) (hi : i + 1 ≤ 9) : r = acc + z * 128 ^ i ∧ acc + z * 128 ^ i < 128 ^ (i + 1) := by
 obtain ⟨rfl, ha⟩ := ha
 have h2 := h ha (.inl (by omega))
 rw [← h2.1]
 exact ⟨rfl, h2.2 (by omega)⟩

/-- A world's facts in the place of the world. -/
theorem wp_world {P : Program} {c : Code} {Q : Exit → Act → World → Prop} {a : Act} {w1 : World} {p : World → Prop} (h : p w1) (k : ∀ w2, p w2 → c.wp P Q a w2) : c.wp P Q a w1 := k w1 h

/-- The number's loop: where it stands. -/
structure RN (w0 w : World) (gr gp off t c pos q : Nat) (B : Option Addr) (bs : List Int) (cs : Array Value) (v : Int) (wr : World) : Prop where
 rr : Rr w0 gr B c bs q wr
 kept : Kept w wr (fun k => k = gr ∨ k = gp)
 blk : wr.heap[gp]? = some (.cells (cs.setIfInBounds off (.int .u64 v)) t (0, 0))
 fl : wr.heap[w.heap.size]? = some (.cells #[.int .i64 pos, .int .i64 161] 81 (0, 0))
theorem RN.bd {w0 w wr : World} {gr gp off t c pos q : Nat} {B : Option Addr} {bs : List Int} {cs : Array Value} {v : Int} (h : RN w0 w gr gp off t c pos q B bs cs v wr) : Bd w0 w gr gp t cs.size (fun _ => False) wr :=
 ⟨h.rr.bel, h.kept.mono (fun k e => e.elim .inl (fun e => .inr (.inl e))), _, h.blk, by simp⟩

set_option maxRecDepth 1000000 in
theorem and_127 : ∀ m : Fin 256, bits BinOp.and IntKind.u8 ((m.val : Nat) : Int) 127 = ((m.val % 128 : Nat) : Int) := by decide
theorem wrap_small {i : Int} (h : -9223372036854775808 ≤ i ∧ i ≤ 9223372036854775807) : wrap64 i = i := by unfold wrap64; omega
theorem and_byte {y : Nat} (h : y < 256) : bits BinOp.and IntKind.u8 (y : Int) 127 = ((y % 128 : Nat) : Int) := and_127 ⟨y, h⟩

set_option maxHeartbeats 4000000 in
set_option maxRecDepth 100000 in
theorem rnumber_any (w0 : World) (gr gp off t c pos most : Nat) (B : Option Addr) (bs : List Int) (cs : Array Value) (w : World) (hbb : Bytes bs) (hbl : bs.length ≤ 1000000000) (h : Rr w0 gr B c bs pos w)
  (hp : w.heap[gp]? = some (.cells cs t (0, 0))) (hoff : off < cs.size) (hne : gp ≠ gr) (h0 : w0.heap.size ≤ gp) (hm : most < 18446744073709551616) :
  Calls Tryz.prog 153 #[.pointer (some ⟨gr, 0, none⟩), .pointer (some ⟨gp, off, none⟩), .int .u64 most] w
   (RPost (Bd w0 w gr gp t cs.size (fun _ => False)) (num bs most pos) fun n q w' => Rr w0 gr B c bs q w' ∧ Kept w w' (fun k => k = gr ∨ k = gp) ∧ w'.heap[gp]? = some (.cells (cs.setIfInBounds off (.int .u64 n)) t (0, 0))) := by
 have hc1 : w.cell? ⟨gr, 1, none⟩ = some (.int .i64 pos) := (blk_cell h.blk 1).trans rfl
 have hpa := blk_alloc hp (.cells #[.int .i64 pos, .int .i64 161] 81)
 have hcp : (w.alloc (.cells #[.int .i64 pos, .int .i64 161] 81)).cell? ⟨gp, off, none⟩ = some cs[off] := (blk_cell hpa off).trans (Array.getElem?_eq_getElem hoff)
 have hfp := blk_frozen hpa off
 have hpl := h.le
 obtain ⟨R, hR⟩ : ∃ R, num bs most pos = R := ⟨_, rfl⟩
 rw [hR]
 have HR : Aside0 (numAt bs most pos 0 pos 0 = R) := ⟨hR⟩
 have HN : Aside0 (RN w0 w gr gp off t c pos pos B bs cs 0 ((w.alloc (.cells #[.int .i64 pos, .int .i64 161] 81)).setCell ⟨gp, off, none⟩ (.int .u64 0))) := by
  have hb : Below w.heap.size w (w.alloc (.cells #[.int .i64 pos, .int .i64 161] 81)) := below_alloc (Below.refl _ _) _
  have hk := blk_lt hp
  refine ⟨⟨(h.below hb).other hne h0 _, ((Kept.refl w _).alloc _).setCell (.inl (.inr rfl)) _, blk_set (blk_below hp hb) off _, ?_⟩⟩
  exact (Below.heap_setCell _ _ _ _ (by simp; omega)).trans (heap_alloc_new w _)
 have HGPL : Aside0 (gp < w.heap.size) := ⟨blk_lt hp⟩
 have hgpm : ¬ gp = w.heap.size := by have := HGPL.out; omega
 have hgpn : ¬ w.heap.size = gp := fun e => hgpm e.symm
 have hgrl : ¬ w.heap.size = gr := by have := blk_lt h.blk; omega
 have hgrm : ¬ gr = w.heap.size := fun e => hgrl e.symm
 clear h hp hR hpa
 generalize hv0 : cs[off] = v0 at hcp
 clear hv0
 go_enter Tryz.func153, Tryz.ntmps153
 go_wp2_with (fail)
 go_loopw [8] (fun a wr => ∃ (i q : Nat) (acc av : Nat), a = .int .i64 i ∧ i ≤ 10 ∧ q ≤ bs.length ∧ Aside0 (numAt bs most pos i q acc = R) ∧ Aside0 (i ≤ 9 → av = acc ∧ acc < 128 ^ i) ∧ Aside0 (av < 18446744073709551616) ∧ Aside0 (RN w0 w gr gp off t c pos q B bs cs av wr)) (fun a _ => 10 - (intOf a).toNat)
 case atStart => exact ⟨0, pos, 0, 0, rfl, by omega, hpl, HR, ⟨fun _ => ⟨rfl, by decide⟩⟩, ⟨by decide⟩, HN⟩
 case round =>
  clear HR HN hc1 hfp hpl hcp
  obtain ⟨i, q, acc, av, rfl, hi, hq, HR, HA, HAV, HN⟩ := hrel
  have hf0 : wr.cell? ⟨w.heap.size, 0, none⟩ = some (.int .i64 pos) := (blk_cell HN.out.fl 0).trans rfl
  have hf1 : wr.cell? ⟨w.heap.size, 1, none⟩ = some (.int .i64 161) := (blk_cell HN.out.fl 1).trans rfl
  by_cases hi10 : i = 10
  ·subst hi10
   have HB : Aside0 (R = .bad pos 161) := ⟨by rw [← HR.out, numAt, if_pos (by omega)]⟩
   go_wp2_with (fail)
   exact ⟨rfl, RPost.of_bad HB.out HN.out.bd⟩
  have hi9 : ((i : Int) == 10) = false := by simp; omega
  have hr0 : wr.cell? ⟨gr, 0, none⟩ = some (.slice B bs.length c) := (blk_cell HN.out.rr.blk 0).trans rfl
  have hr1 : wr.cell? ⟨gr, 1, none⟩ = some (.int .i64 q) := (blk_cell HN.out.rr.blk 1).trans rfl
  have hrf := blk_frozen HN.out.rr.blk 1
  by_cases hql : q = bs.length
  ·have HB : Aside0 (R = .bad bs.length 160) := ⟨by rw [← HR.out, numAt, if_neg (by omega), if_pos (by omega)]⟩
   have hqe : ((q : Int) == (bs.length : Int)) = true := by simp [hql]
   have HC : Aside0 (∀ nq, Calls Tryz.prog 57 #[.pointer (some ⟨gr, 0, none⟩)] (wr.drewN nq) fun e w' => e = .panicked (failed bs.length 160) ∧ wr.drewN nq = w') := ⟨fun nq => rshort_any w0 gr c q B bs _ (HN.out.rr.below (pw_below_drewN (Below.refl _ _) nq))⟩
   clear hql
   go_wp2_with (fail)
   go_quiet (fail)
   go_wp2_with (fail)
   refine (HC.out _).mono ?_
   rintro e w' ⟨rfl, rfl⟩
   exact ⟨rfl, RPost.of_bad HB.out (HN.out.bd.below (pw_below_drewN (Below.refl _ _) _))⟩
  obtain ⟨ad, rfl, hcell⟩ := Kd.at_int HN.out.rr.row (q : Int) (by omega) (by omega)
  obtain ⟨hx, hy⟩ := byte_at hbb (show q < bs.length by omega)
  have hrd : rd bs (q : Int) = bs.getD q 0 := by simp [rd]
  rw [hrd, hx] at hcell
  simp only [Int.toNat_natCast] at hcell
  have HU : Aside0 (numAt bs most pos i q acc = (if (i = 9 ∧ 1 < (bs.getD q 0).toNat % 128 ∧ (bs.getD q 0).toNat < 128) ∨ (0 < i ∧ (bs.getD q 0).toNat = 0) then Res.bad pos 161
    else if (bs.getD q 0).toNat < 128 then (if most < acc + (bs.getD q 0).toNat * 128 ^ i then .bad pos 161 else .ok (acc + (bs.getD q 0).toNat * 128 ^ i) (q + 1))
    else numAt bs most pos (i + 1) (q + 1) (acc + ((bs.getD q 0).toNat % 128) * 128 ^ i))) := ⟨by rw [numAt, if_neg (by omega), if_neg (by omega)]⟩
  clear hx hrd
  generalize (bs.getD q 0).toNat = y at hcell hy HU
  have hblk : (ad.add q).block < w0.heap.size := World.block_lt_of_cell? _ _ hcell
  have hcw : wr.cell? (ad.add q) = some (.int .u8 y) := (cell_block (HN.out.rr.bel.block _ hblk)).trans hcell
  have hqe : ((q : Int) == (bs.length : Int)) = false := by simp; omega
  have hqi : (q : Int) < (bs.length : Int) := by omega
  have hand := and_byte hy
  have hg0 : wr.cell? ⟨gp, off, none⟩ = some (.int .u64 av) := (blk_cell HN.out.blk off).trans (by simp [hoff])
  have hgf := blk_frozen HN.out.blk off
  have HW2 : Aside0 (∀ m, RN w0 w gr gp off t c pos (q + 1) (some ad) bs cs av ((wr.drewN m).setCell ⟨gr, 1, none⟩ (.int .i64 ((q : Int) + 1)))) := ⟨fun m => by
   have hb := pw_below_drewN (Below.refl wr.heap.size wr) m
   refine ⟨(HN.out.rr.below hb).set (q := q + 1) (by omega), (HN.out.kept.drewN m).setCell (.inl (.inl rfl)) _, blk_far (blk_below HN.out.blk hb) hne _, ?_⟩
   refine blk_far (blk_below HN.out.fl hb) ?_ _
   exact blk_ne HN.out.fl HN.out.rr.blk (by decide)⟩
  clear hcell hblk
  obtain ⟨r, hbit, hr64, hrv⟩ := or_part av (y % 128) i (by omega) HAV.out (Nat.mod_lt _ (by decide))
  have hcast : ((y % 128 : Nat) : Int) = (y : Int) % 128 := by omega
  rw [hcast] at hbit
  have HA9 := Aside0.mk (HA.out (by omega))
  have hs1 : (0 : Int) ≤ 7 * (i : Int) := by omega
  have hs2 : 7 * (i : Int) ≤ 64 := by omega
  have HW3 : Aside0 (∀ w2, RN w0 w gr gp off t c pos (q + 1) (some ad) bs cs av w2 → RN w0 w gr gp off t c pos (q + 1) (some ad) bs cs r (w2.setCell ⟨gp, off, none⟩ (.int .u64 (r : Int))).drew) := ⟨fun w2 hn => by
   refine ⟨(hn.rr.other hne h0 _).below (pw_below_drewN (Below.refl _ _) 1), (hn.kept.setCell (.inl (.inr rfl)) _).drew, ?_, ?_⟩
   ·have := blk_set hn.blk off (.int .u64 (r : Int))
    rw [Array.setIfInBounds_setIfInBounds] at this
    exact this
   ·refine blk_far hn.fl ?_ _
    have := HGPL.out
    simp
    omega⟩
  have hs3 : IntKind.i64.wrap (7 * (i : Int)) = 7 * i := by rw [IntKind.wrap_i64]; omega
  have HRV := Aside0.mk hrv
  have HR64 := Aside0.mk hr64
  clear hrv hr64 hcast
  rcases (show (i = 9 ∧ 2 ≤ y ∧ y < 128) ∨ (i = 9 ∧ y = 0) ∨ (i = 9 ∧ y = 1) ∨ (i = 9 ∧ 128 ≤ y ∧ 1 < y % 128) ∨ (i = 9 ∧ 128 ≤ y ∧ y % 128 ≤ 1) ∨ ((0 < i ∧ i < 9) ∧ y = 0) ∨ ((0 < i ∧ i < 9) ∧ 0 < y ∧ y < 128) ∨ ((0 < i ∧ i < 9) ∧ 128 ≤ y) ∨ (i = 0 ∧ y < 128) ∨ (i = 0 ∧ 128 ≤ y) from by omega) with hcase | hcase | hcase | hcase | hcase | hcase | hcase | hcase | hcase | hcase
  ·have HB : Aside0 (R = .bad pos 161) := ⟨by rw [← HR.out, HU.out, if_pos (by omega)]⟩
   have t1 : ((i : Int) == 9) = true := by simp; omega
   have t5 : decide ((1 : Int) < (y : Int) % 128) = true := by simp; omega
   have p5 : (1 : Int) < (y : Int) % 128 := by omega
   have t2 : decide ((y : Int) < 128) = true := by simp; omega
   have p2 : y < 128 := by omega
   have t3 : decide ((0 : Int) < (i : Int)) = true := by simp; omega
   have p3 : 0 < i := by omega
   have t4 : ((y : Int) == 0) = false := by simp; omega
   clear hcase
   go_wp2_with (fail)
   go_quiet (fail)
   go_wp2_with (fail)
   go_quiet (fail)
   go_wp2_with (fail)
   exact ⟨rfl, RPost.of_bad HB.out (HW2.out _).bd⟩
  ·have HB : Aside0 (R = .bad pos 161) := ⟨by rw [← HR.out, HU.out, if_pos (by omega)]⟩
   have t1 : ((i : Int) == 9) = true := by simp; omega
   have t3 : decide ((0 : Int) < (i : Int)) = true := by simp; omega
   have p3 : 0 < i := by omega
   obtain rfl : y = 0 := by omega
   have hand0 : bits BinOp.and IntKind.u8 0 127 = 0 := by decide
   clear hcase
   go_wp2_with (fail)
   go_quiet (fail)
   go_wp2_with (fail)
   go_quiet (fail)
   go_wp2_with (fail)
   exact ⟨rfl, RPost.of_bad HB.out (HW2.out _).bd⟩
  ·have HX : Aside0 (r = acc + y * 128 ^ i) := ⟨fin_part HRV.out HA9.out (by omega) (by omega)⟩
   have HB : Aside0 ((if most < r then Res.bad pos 161 else .ok r (q + 1)) = R) := ⟨by have h := HU.out; rw [if_neg (by omega), if_pos (by omega), ← HX.out] at h; rw [← h]; exact HR.out⟩
   have t1 : ((i : Int) == 9) = true := by simp; omega
   have t3 : decide ((0 : Int) < (i : Int)) = true := by simp; omega
   have p3 : 0 < i := by omega
   have t4 : ((y : Int) == 0) = false := by simp; omega
   have t2 : decide ((y : Int) < 128) = true := by simp; omega
   have p2 : y < 128 := by omega
   have t5 : decide ((1 : Int) < (y : Int) % 128) = false := by simp; omega
   have p5 : ¬ (1 : Int) < (y : Int) % 128 := by omega
   have p6 : (y : Int) % 128 ≤ 1 := by omega
   clear hcase
   by_cases hmost : most < r
   ·have t6 : decide ((most : Int) < (r : Int)) = true := by simp; omega
    have HE : Aside0 (R = .bad pos 161) := ⟨by rw [← HB.out, if_pos hmost]⟩
    go_wp2_with (fail)
    go_quiet (fail)
    go_wp2_with (fail)
    go_quiet (fail)
    go_wp2_with (fail)
    refine wp_world (p := RN w0 w gr gp off t c pos (q + 1) (some ad) bs cs av) (HW2.out _) ?_
    rintro w2 hn2
    have HN2 := Aside0.mk (HW3.out _ hn2)
    have hg2 : w2.cell? ⟨gp, off, none⟩ = some (.int .u64 av) := (blk_cell hn2.blk off).trans (by simp [hoff])
    have hgf2 := blk_frozen hn2.blk off
    have hk0 := (blk_cell hn2.fl 0).trans rfl
    have hk1 := (blk_cell hn2.fl 1).trans rfl
    clear hn2 hg0 hgf hr0 hr1 hrf hf0 hf1 hcw HN HW2 HW3
    go_still_tail 10, (by kernel_rfl)
    change wpList _ _ _ _ _ w2.drew
    go_wp2_with (fail)
    exact ⟨rfl, RPost.of_bad HE.out HN2.out.bd⟩
   ·have t6 : decide ((most : Int) < (r : Int)) = false := by simp; omega
    have HE : Aside0 (R = .ok r (q + 1)) := ⟨by rw [← HB.out, if_neg hmost]⟩
    go_wp2_with (fail)
    go_quiet (fail)
    go_wp2_with (fail)
    go_quiet (fail)
    go_wp2_with (fail)
    refine wp_world (p := RN w0 w gr gp off t c pos (q + 1) (some ad) bs cs av) (HW2.out _) ?_
    rintro w2 hn2
    have HN2 := Aside0.mk (HW3.out _ hn2)
    have hg2 : w2.cell? ⟨gp, off, none⟩ = some (.int .u64 av) := (blk_cell hn2.blk off).trans (by simp [hoff])
    have hgf2 := blk_frozen hn2.blk off
    have hk0 := (blk_cell hn2.fl 0).trans rfl
    have hk1 := (blk_cell hn2.fl 1).trans rfl
    clear hn2 hg0 hgf hr0 hr1 hrf hf0 hf1 hcw HN HW2 HW3
    go_still_tail 10, (by kernel_rfl)
    change wpList _ _ _ _ _ w2.drew
    go_wp2_with (fail)
    go_end0
    exact RPost.of_ok HE.out ⟨HN2.out.rr, HN2.out.kept, HN2.out.blk⟩
  ·have HB : Aside0 (numAt bs most pos (i + 1) (q + 1) (acc + (y % 128) * 128 ^ i) = R) := ⟨by rw [← HR.out, HU.out, if_neg (by omega), if_neg (by omega)]⟩
   have HX : Aside0 (i + 1 ≤ 9 → r = acc + (y % 128) * 128 ^ i ∧ acc + (y % 128) * 128 ^ i < 128 ^ (i + 1)) := ⟨fun h9 => next_part HRV.out HA9.out h9⟩
   have t1 : ((i : Int) == 9) = true := by simp; omega
   have t5 : decide ((1 : Int) < (y : Int) % 128) = true := by simp; omega
   have p5 : (1 : Int) < (y : Int) % 128 := by omega
   have t2 : decide ((y : Int) < 128) = false := by simp; omega
   have p2 : ¬ y < 128 := by omega
   have t3 : decide ((0 : Int) < (i : Int)) = true := by simp; omega
   have p3 : 0 < i := by omega
   have t4 : ((y : Int) == 0) = false := by simp; omega
   clear hcase
   go_wp2_with (fail)
   go_quiet (fail)
   go_wp2_with (fail)
   go_quiet (fail)
   go_wp2_with (fail)
   refine wp_world (p := RN w0 w gr gp off t c pos (q + 1) (some ad) bs cs av) (HW2.out _) ?_
   rintro w2 hn2
   have HN2 := Aside0.mk (HW3.out _ hn2)
   have hg2 : w2.cell? ⟨gp, off, none⟩ = some (.int .u64 av) := (blk_cell hn2.blk off).trans (by simp [hoff])
   have hgf2 := blk_frozen hn2.blk off
   have hk0 := (blk_cell hn2.fl 0).trans rfl
   have hk1 := (blk_cell hn2.fl 1).trans rfl
   clear hn2 hg0 hgf hr0 hr1 hrf hf0 hf1 hcw HN HW2 HW3
   go_still_tail 10, (by kernel_rfl)
   change wpList _ _ _ _ _ w2.drew
   go_wp2_with (fail)
   go_roundw
   case rel => exact ⟨i + 1, q + 1, _, r, by go_num, by omega, by omega, HB, HX, HR64, HN2⟩
   case measure => simp [intOf]; omega
  ·have HB : Aside0 (numAt bs most pos (i + 1) (q + 1) (acc + (y % 128) * 128 ^ i) = R) := ⟨by rw [← HR.out, HU.out, if_neg (by omega), if_neg (by omega)]⟩
   have HX : Aside0 (i + 1 ≤ 9 → r = acc + (y % 128) * 128 ^ i ∧ acc + (y % 128) * 128 ^ i < 128 ^ (i + 1)) := ⟨fun h9 => next_part HRV.out HA9.out h9⟩
   have t1 : ((i : Int) == 9) = true := by simp; omega
   have t5 : decide ((1 : Int) < (y : Int) % 128) = false := by simp; omega
   have p5 : ¬ (1 : Int) < (y : Int) % 128 := by omega
   have p6 : (y : Int) % 128 ≤ 1 := by omega
   have t2 : decide ((y : Int) < 128) = false := by simp; omega
   have p2 : ¬ y < 128 := by omega
   have t3 : decide ((0 : Int) < (i : Int)) = true := by simp; omega
   have p3 : 0 < i := by omega
   have t4 : ((y : Int) == 0) = false := by simp; omega
   clear hcase
   go_wp2_with (fail)
   go_quiet (fail)
   go_wp2_with (fail)
   go_quiet (fail)
   go_wp2_with (fail)
   refine wp_world (p := RN w0 w gr gp off t c pos (q + 1) (some ad) bs cs av) (HW2.out _) ?_
   rintro w2 hn2
   have HN2 := Aside0.mk (HW3.out _ hn2)
   have hg2 : w2.cell? ⟨gp, off, none⟩ = some (.int .u64 av) := (blk_cell hn2.blk off).trans (by simp [hoff])
   have hgf2 := blk_frozen hn2.blk off
   have hk0 := (blk_cell hn2.fl 0).trans rfl
   have hk1 := (blk_cell hn2.fl 1).trans rfl
   clear hn2 hg0 hgf hr0 hr1 hrf hf0 hf1 hcw HN HW2 HW3
   go_still_tail 10, (by kernel_rfl)
   change wpList _ _ _ _ _ w2.drew
   go_wp2_with (fail)
   go_roundw
   case rel => exact ⟨i + 1, q + 1, _, r, by go_num, by omega, by omega, HB, HX, HR64, HN2⟩
   case measure => simp [intOf]; omega
  ·have HB : Aside0 (R = .bad pos 161) := ⟨by rw [← HR.out, HU.out, if_pos (by omega)]⟩
   have t1 : ((i : Int) == 9) = false := by simp; omega
   have t3 : decide ((0 : Int) < (i : Int)) = true := by simp; omega
   have p3 : 0 < i := by omega
   obtain rfl : y = 0 := by omega
   have hand0 : bits BinOp.and IntKind.u8 0 127 = 0 := by decide
   clear hcase
   go_wp2_with (fail)
   go_quiet (fail)
   go_wp2_with (fail)
   go_quiet (fail)
   go_wp2_with (fail)
   exact ⟨rfl, RPost.of_bad HB.out (HW2.out _).bd⟩
  ·have HX : Aside0 (r = acc + y * 128 ^ i) := ⟨fin_part HRV.out HA9.out (by omega) (by omega)⟩
   have HB : Aside0 ((if most < r then Res.bad pos 161 else .ok r (q + 1)) = R) := ⟨by have h := HU.out; rw [if_neg (by omega), if_pos (by omega), ← HX.out] at h; rw [← h]; exact HR.out⟩
   have t1 : ((i : Int) == 9) = false := by simp; omega
   have t3 : decide ((0 : Int) < (i : Int)) = true := by simp; omega
   have p3 : 0 < i := by omega
   have t4 : ((y : Int) == 0) = false := by simp; omega
   have t2 : decide ((y : Int) < 128) = true := by simp; omega
   have p2 : y < 128 := by omega
   clear hcase
   by_cases hmost : most < r
   ·have t6 : decide ((most : Int) < (r : Int)) = true := by simp; omega
    have HE : Aside0 (R = .bad pos 161) := ⟨by rw [← HB.out, if_pos hmost]⟩
    go_wp2_with (fail)
    go_quiet (fail)
    go_wp2_with (fail)
    go_quiet (fail)
    go_wp2_with (fail)
    refine wp_world (p := RN w0 w gr gp off t c pos (q + 1) (some ad) bs cs av) (HW2.out _) ?_
    rintro w2 hn2
    have HN2 := Aside0.mk (HW3.out _ hn2)
    have hg2 : w2.cell? ⟨gp, off, none⟩ = some (.int .u64 av) := (blk_cell hn2.blk off).trans (by simp [hoff])
    have hgf2 := blk_frozen hn2.blk off
    have hk0 := (blk_cell hn2.fl 0).trans rfl
    have hk1 := (blk_cell hn2.fl 1).trans rfl
    clear hn2 hg0 hgf hr0 hr1 hrf hf0 hf1 hcw HN HW2 HW3
    go_still_tail 10, (by kernel_rfl)
    change wpList _ _ _ _ _ w2.drew
    go_wp2_with (fail)
    exact ⟨rfl, RPost.of_bad HE.out HN2.out.bd⟩
   ·have t6 : decide ((most : Int) < (r : Int)) = false := by simp; omega
    have HE : Aside0 (R = .ok r (q + 1)) := ⟨by rw [← HB.out, if_neg hmost]⟩
    go_wp2_with (fail)
    go_quiet (fail)
    go_wp2_with (fail)
    go_quiet (fail)
    go_wp2_with (fail)
    refine wp_world (p := RN w0 w gr gp off t c pos (q + 1) (some ad) bs cs av) (HW2.out _) ?_
    rintro w2 hn2
    have HN2 := Aside0.mk (HW3.out _ hn2)
    have hg2 : w2.cell? ⟨gp, off, none⟩ = some (.int .u64 av) := (blk_cell hn2.blk off).trans (by simp [hoff])
    have hgf2 := blk_frozen hn2.blk off
    have hk0 := (blk_cell hn2.fl 0).trans rfl
    have hk1 := (blk_cell hn2.fl 1).trans rfl
    clear hn2 hg0 hgf hr0 hr1 hrf hf0 hf1 hcw HN HW2 HW3
    go_still_tail 10, (by kernel_rfl)
    change wpList _ _ _ _ _ w2.drew
    go_wp2_with (fail)
    go_end0
    exact RPost.of_ok HE.out ⟨HN2.out.rr, HN2.out.kept, HN2.out.blk⟩
  ·have HB : Aside0 (numAt bs most pos (i + 1) (q + 1) (acc + (y % 128) * 128 ^ i) = R) := ⟨by rw [← HR.out, HU.out, if_neg (by omega), if_neg (by omega)]⟩
   have HX : Aside0 (i + 1 ≤ 9 → r = acc + (y % 128) * 128 ^ i ∧ acc + (y % 128) * 128 ^ i < 128 ^ (i + 1)) := ⟨fun h9 => next_part HRV.out HA9.out h9⟩
   have t1 : ((i : Int) == 9) = false := by simp; omega
   have t2 : decide ((y : Int) < 128) = false := by simp; omega
   have p2 : ¬ y < 128 := by omega
   have t3 : decide ((0 : Int) < (i : Int)) = true := by simp; omega
   have p3 : 0 < i := by omega
   have t4 : ((y : Int) == 0) = false := by simp; omega
   clear hcase
   go_wp2_with (fail)
   go_quiet (fail)
   go_wp2_with (fail)
   go_quiet (fail)
   go_wp2_with (fail)
   refine wp_world (p := RN w0 w gr gp off t c pos (q + 1) (some ad) bs cs av) (HW2.out _) ?_
   rintro w2 hn2
   have HN2 := Aside0.mk (HW3.out _ hn2)
   have hg2 : w2.cell? ⟨gp, off, none⟩ = some (.int .u64 av) := (blk_cell hn2.blk off).trans (by simp [hoff])
   have hgf2 := blk_frozen hn2.blk off
   have hk0 := (blk_cell hn2.fl 0).trans rfl
   have hk1 := (blk_cell hn2.fl 1).trans rfl
   clear hn2 hg0 hgf hr0 hr1 hrf hf0 hf1 hcw HN HW2 HW3
   go_still_tail 10, (by kernel_rfl)
   change wpList _ _ _ _ _ w2.drew
   go_wp2_with (fail)
   go_roundw
   case rel => exact ⟨i + 1, q + 1, _, r, by go_num, by omega, by omega, HB, HX, HR64, HN2⟩
   case measure => simp [intOf]; omega
  ·have HX : Aside0 (r = acc + y * 128 ^ i) := ⟨fin_part HRV.out HA9.out (by omega) (by omega)⟩
   have HB : Aside0 ((if most < r then Res.bad pos 161 else .ok r (q + 1)) = R) := ⟨by have h := HU.out; rw [if_neg (by omega), if_pos (by omega), ← HX.out] at h; rw [← h]; exact HR.out⟩
   have t1 : ((i : Int) == 9) = false := by simp; omega
   have t2 : decide ((y : Int) < 128) = true := by simp; omega
   have p2 : y < 128 := by omega
   have t3 : decide ((0 : Int) < (i : Int)) = false := by simp; omega
   have p3 : ¬ 0 < i := by omega
   clear hcase
   by_cases hmost : most < r
   ·have t6 : decide ((most : Int) < (r : Int)) = true := by simp; omega
    have HE : Aside0 (R = .bad pos 161) := ⟨by rw [← HB.out, if_pos hmost]⟩
    go_wp2_with (fail)
    go_quiet (fail)
    go_wp2_with (fail)
    go_quiet (fail)
    go_wp2_with (fail)
    refine wp_world (p := RN w0 w gr gp off t c pos (q + 1) (some ad) bs cs av) (HW2.out _) ?_
    rintro w2 hn2
    have HN2 := Aside0.mk (HW3.out _ hn2)
    have hg2 : w2.cell? ⟨gp, off, none⟩ = some (.int .u64 av) := (blk_cell hn2.blk off).trans (by simp [hoff])
    have hgf2 := blk_frozen hn2.blk off
    have hk0 := (blk_cell hn2.fl 0).trans rfl
    have hk1 := (blk_cell hn2.fl 1).trans rfl
    clear hn2 hg0 hgf hr0 hr1 hrf hf0 hf1 hcw HN HW2 HW3
    go_still_tail 10, (by kernel_rfl)
    change wpList _ _ _ _ _ w2.drew
    go_wp2_with (fail)
    exact ⟨rfl, RPost.of_bad HE.out HN2.out.bd⟩
   ·have t6 : decide ((most : Int) < (r : Int)) = false := by simp; omega
    have HE : Aside0 (R = .ok r (q + 1)) := ⟨by rw [← HB.out, if_neg hmost]⟩
    go_wp2_with (fail)
    go_quiet (fail)
    go_wp2_with (fail)
    go_quiet (fail)
    go_wp2_with (fail)
    refine wp_world (p := RN w0 w gr gp off t c pos (q + 1) (some ad) bs cs av) (HW2.out _) ?_
    rintro w2 hn2
    have HN2 := Aside0.mk (HW3.out _ hn2)
    have hg2 : w2.cell? ⟨gp, off, none⟩ = some (.int .u64 av) := (blk_cell hn2.blk off).trans (by simp [hoff])
    have hgf2 := blk_frozen hn2.blk off
    have hk0 := (blk_cell hn2.fl 0).trans rfl
    have hk1 := (blk_cell hn2.fl 1).trans rfl
    clear hn2 hg0 hgf hr0 hr1 hrf hf0 hf1 hcw HN HW2 HW3
    go_still_tail 10, (by kernel_rfl)
    change wpList _ _ _ _ _ w2.drew
    go_wp2_with (fail)
    go_end0
    exact RPost.of_ok HE.out ⟨HN2.out.rr, HN2.out.kept, HN2.out.blk⟩
  ·have HB : Aside0 (numAt bs most pos (i + 1) (q + 1) (acc + (y % 128) * 128 ^ i) = R) := ⟨by rw [← HR.out, HU.out, if_neg (by omega), if_neg (by omega)]⟩
   have HX : Aside0 (i + 1 ≤ 9 → r = acc + (y % 128) * 128 ^ i ∧ acc + (y % 128) * 128 ^ i < 128 ^ (i + 1)) := ⟨fun h9 => next_part HRV.out HA9.out h9⟩
   have t1 : ((i : Int) == 9) = false := by simp; omega
   have t2 : decide ((y : Int) < 128) = false := by simp; omega
   have p2 : ¬ y < 128 := by omega
   have t3 : decide ((0 : Int) < (i : Int)) = false := by simp; omega
   have p3 : ¬ 0 < i := by omega
   have t4 : ((y : Int) == 0) = false := by simp; omega
   clear hcase
   go_wp2_with (fail)
   go_quiet (fail)
   go_wp2_with (fail)
   go_quiet (fail)
   go_wp2_with (fail)
   refine wp_world (p := RN w0 w gr gp off t c pos (q + 1) (some ad) bs cs av) (HW2.out _) ?_
   rintro w2 hn2
   have HN2 := Aside0.mk (HW3.out _ hn2)
   have hg2 : w2.cell? ⟨gp, off, none⟩ = some (.int .u64 av) := (blk_cell hn2.blk off).trans (by simp [hoff])
   have hgf2 := blk_frozen hn2.blk off
   have hk0 := (blk_cell hn2.fl 0).trans rfl
   have hk1 := (blk_cell hn2.fl 1).trans rfl
   clear hn2 hg0 hgf hr0 hr1 hrf hf0 hf1 hcw HN HW2 HW3
   go_still_tail 10, (by kernel_rfl)
   change wpList _ _ _ _ _ w2.drew
   go_wp2_with (fail)
   go_roundw
   case rel => exact ⟨i + 1, q + 1, _, r, by go_num, by omega, by omega, HB, HX, HR64, HN2⟩
   case measure => simp [intOf]; omega
end Go.Proofs.YtihjjkoddphmiaaGreatDoor.img

namespace Go.Proofs.YtihjjkoddphmiaaGreatDoor.img
open Go.RowKit Go.Proofs.YtihjjkoddphmiaaGreatDoorW.PrintWords Go.Proofs.YtihjjkoddphmiaaGreatDoorW.PrintMore Go.Proofs.YtihjjkoddphmiaaGreatDoor.PImageApart
set_option linter.unusedVariables false
set_option linter.unusedSimpArgs false

theorem convert_u64 {x : Int} (h : 0 ≤ x ∧ x ≤ 4611686018427387905) : IntKind.i64.wrap x = x := by rw [IntKind.wrap_i64]; omega

set_option maxHeartbeats 4000000 in
set_option maxRecDepth 100000 in
theorem rinteger_any (w0 : World) (gr gp off t c pos : Nat) (more : Int) (B : Option Addr) (bs : List Int) (cs : Array Value) (w : World) (hbb : Bytes bs) (hbl : bs.length ≤ 1000000000) (h : Rr w0 gr B c bs pos w)
  (hp : w.heap[gp]? = some (.cells cs t (0, 0))) (hoff : cs[off]? = some (.int .i64 0)) (hne : gp ≠ gr) (h0 : w0.heap.size ≤ gp) (hm : 0 ≤ more ∧ more ≤ 1) :
  Calls Tryz.prog 59 #[.iface 82 (.pointer (some ⟨gr, 0, none⟩)), .pointer (some ⟨gp, off, none⟩), .int .i64 more] w
   (RPost (Bd w0 w gr gp t cs.size (fun _ => False)) (int bs more pos) fun n q w' => Rr w0 gr B c bs q w' ∧ Kept w w' (fun k => k = gr ∨ k = gp) ∧ w'.heap[gp]? = some (.cells (cs.setIfInBounds off (.int .i64 n)) t (0, 0))) := by
 have hmr := method_r ⟨gr, 0, none⟩
 have hb : Below w.heap.size w (w.alloc (.cells #[.int .u64 more] 42)) := below_alloc (Below.refl _ _) _
 have hcp : w.cell? ⟨gp, off, none⟩ = some (.int .i64 0) := (blk_cell hp off).trans hoff
 have hgrl := blk_lt h.blk
 have hgpl := blk_lt hp
 have HC := Aside0.mk (rnumber_any w0 gr w.heap.size 0 42 c pos 4611686018427387905 B bs #[.int .u64 more] (w.alloc (.cells #[.int .u64 more] 42)) hbb hbl (h.below hb) (heap_alloc_new w _) (by simp) (by omega) h.bel.size (by omega))
 have HP := Aside0.mk hp
 have HN := Aside0.mk (show w.heap.size ≠ gr by omega)
 have HN2 := Aside0.mk (show w.heap.size ≠ gp by omega)
 have HB := Aside0.mk hb
 have HNE := Aside0.mk hne
 have H0 := Aside0.mk h0
 have HOF := Aside0.mk (Array.getElem?_eq_some_iff.1 hoff).1
 obtain ⟨R, hR⟩ : ∃ R, num bs 4611686018427387905 pos = R := ⟨_, rfl⟩
 have HI : Aside0 (int bs more pos = R.bind fun n p => .ok ((n : Int) - more) p) := ⟨by rw [← hR]; rfl⟩
 have HS : Aside0 (∀ n q, R = .ok n q → n ≤ 4611686018427387905) := ⟨fun n q e => (num_says hbb (hR.trans e)).2.2⟩
 rw [HI.out]
 rw [hR] at HC
 clear h hp hgrl hgpl hb hR HI hne h0 hoff
 cases R with
 | bad q code =>
  go_enter Tryz.func59, Tryz.ntmps59
  go_wp2_with (fail)
  refine HC.out.mono ?_
  rintro en w2 ⟨rfl, hb2⟩
  exact ⟨rfl, RPost.of_bad rfl (Bd.new (Kept.of_below HB.out _) (blk_below HP.out HB.out) rfl hb2 (Nat.le_refl _) HNE.out (blk_lt HP.out) (fun k e => e.elim))⟩
 | ok n q =>
  have hn := HS.out n q rfl
  have hcv := convert_u64 (x := n) (by omega)
  go_enter Tryz.func59, Tryz.ntmps59
  go_wp2_with (fail)
  refine HC.out.mono ?_
  rintro en w2 ⟨rfl, hr2, hk2, hb2⟩
  have HR2 := Aside0.mk hr2
  have HK2 := Aside0.mk hk2
  have HP2 := Aside0.mk (blk_kept (blk_below HP.out HB.out) hk2 (by have := HN2.out; have := HNE.out; omega))
  have hx := (blk_cell hb2 0).trans (show _ = some (.int .u64 (n : Int)) from rfl)
  have hg2 := (blk_cell HP2.out off).trans (Array.getElem?_eq_getElem HOF.out)
  have hf2 := blk_frozen HP2.out off
  clear hr2 hk2 hb2 hcp
  go_wp2
  go_end0
  refine RPost.of_ok rfl ⟨HR2.out.other HNE.out H0.out _, ?_, blk_put HP2.out off _ rfl⟩
  refine Kept.setCell ?_ (.inl (.inr rfl)) _
  refine (Kept.of_below HB.out _).then_ HK2.out ?_
  rintro k (rfl | rfl)
  ·exact .inl (.inl rfl)
  ·exact .inr (Nat.le_refl _)
end Go.Proofs.YtihjjkoddphmiaaGreatDoor.img
