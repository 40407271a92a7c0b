import Derived.Test.YtihjjkoddphmiaaDoorLPImageRoundx0
import Derived.Test.YtihjjkoddphmiaaDoorRows
import Derived.WalkKit
import Derived.WalkLawsBesides
import Derived.WalkSpells
import Derived.Deep.QuietTactic
import Derived.BigQuiet
import Derived.Test.YtihjjkoddphmiaaDoorLWMore
import Derived.Test.YtihjjkoddphmiaaDoorLWKept
import Derived.StillTailTactics
import Derived.WalkArith
import Derived.Laws.BitsLemmas
namespace Go.Proofs.YtihjjkoddphmiaaDoor.img
open Go.Proofs.YtihjjkoddphmiaaDoor.PImageRound

/-- A graph. -/
structure Gr where
  objs : List S62
  slots : List (List (List Int))
  handles : List Int
  registry : List Int
  queue : List Int
  next : Int

/-- A number's bytes. -/
def enc (n : Nat) : List Int := if n < 128 then [(n : Int)] else ((n % 128 + 128 : Nat) : Int) :: enc (n / 128)
termination_by n
decreasing_by omega

def encI (more : Int) (n : Int) : List Int := enc (n + more).toNat
def encL {α : Type} (each : α → List Int) (l : List α) : List Int := enc l.length ++ l.flatMap each

def encO (last : Int) (o : S62) : List Int := enc (o.f0 - last).toNat ++ encI 0 o.f1 ++ encI 0 o.f2 ++ encL (encI 0) o.f3 ++ encL (encI 0) o.f4
def encOs : Int → List S62 → List Int
  | _, [] => []
  | last, o :: r => encO last o ++ encOs o.f0 r

def head : List Int := [77, 68, 73, 49]
def body (g : Gr) : List Int :=
  head ++ (enc g.next.toNat ++ ((enc g.objs.length ++ encOs 0 g.objs) ++ (encL (encL (encL (encI 0))) g.slots ++ (encL (encI 1) g.handles ++ encL (encI 0) g.queue))))

/-- What reading comes to. -/
inductive Res (α : Type) where
  | ok (a : α) (pos : Nat)
  | bad (pos : Nat) (e : Int)

def Res.bind {α β : Type} (r : Res α) (f : α → Nat → Res β) : Res β :=
  match r with
  | .ok a p => f a p
  | .bad p e => .bad p e

/-- A number from 'from_' on: the round i, at 'pos', what is there so far. -/
def numAt (b : List Int) (most : Nat) (from_ : Nat) : Nat → Nat → Nat → Res Nat
  | i, pos, n =>
    if 10 ≤ i then .bad from_ 161
    else if b.length ≤ pos then .bad b.length 160
    else
      let c := (b.getD pos 0).toNat
      if (i = 9 ∧ 1 < c % 128 ∧ c < 128) ∨ (0 < i ∧ c = 0) then .bad from_ 161
      else if c < 128 then (if most < n + c * 128 ^ i then .bad from_ 161 else .ok (n + c * 128 ^ i) (pos + 1))
      else numAt b most from_ (i + 1) (pos + 1) (n + (c % 128) * 128 ^ i)
termination_by i => 10 - i
decreasing_by omega
def num (b : List Int) (most : Nat) (pos : Nat) : Res Nat := numAt b most pos 0 pos 0

def great : Nat := 4611686018427387905
def any64 : Nat := 18446744073709551615

def int (b : List Int) (more : Int) (pos : Nat) : Res Int := (num b great pos).bind fun n p => .ok ((n : Int) - more) p
def many {σ α : Type} (each : σ → Nat → Res (α × σ)) : Nat → σ → Nat → Res (List α × σ)
  | 0, s, p => .ok ([], s) p
  | n + 1, s, p => (each s p).bind fun x p1 => (many each n x.2 p1).bind fun y p2 => .ok (x.1 :: y.1, y.2) p2
def lst {σ α : Type} (b : List Int) (each : σ → Nat → Res (α × σ)) (s : σ) (pos : Nat) : Res (List α × σ) :=
  (num b great pos).bind fun n p => if b.length - p < n then .bad b.length 160 else many each n s p
def plain (b : List Int) (more : Int) (_ : Unit) (pos : Nat) : Res (Int × Unit) := (int b more pos).bind fun n p => .ok (n, ()) p
def raw (b : List Int) (_ : Unit) (pos : Nat) : Res (Int × Unit) := (num b any64 pos).bind fun n p => .ok ((n : Int), ()) p
def ints (b : List Int) (more : Int) (_ : Unit) (pos : Nat) : Res (List Int × Unit) := lst b (plain b more) () pos
def frames (b : List Int) (_ : Unit) (pos : Nat) : Res (List (List Int) × Unit) := lst b (ints b 0) () pos
def obj (b : List Int) (last : Int) (pos : Nat) : Res (S62 × Int) :=
  (num b great pos).bind fun step p0 =>
  (int b 0 p0).bind fun kind p1 => (int b 0 p1).bind fun site p2 =>
  (ints b 0 () p2).bind fun ptrs p3 => (lst b (raw b) () p3).bind fun raws p4 =>
  .ok (⟨min (last + step) 9223372036854775808, kind, site, ptrs.1, raws.1⟩, min (last + step) 9223372036854775808) p4
end Go.Proofs.YtihjjkoddphmiaaDoor.img

namespace Go.Proofs.YtihjjkoddphmiaaDoor.img
open Go.Proofs.YtihjjkoddphmiaaDoor.PImageRound
set_option linter.unusedSimpArgs false
set_option linter.unusedVariables false

/-- From 'pos' on stands 'xs'. -/
def At (b : List Int) (pos : Nat) (xs : List Int) : Prop := ∃ rest, b.drop pos = xs ++ rest

theorem At.app {b : List Int} {pos : Nat} {xs ys : List Int} (h : At b pos (xs ++ ys)) : At b pos xs ∧ At b (pos + xs.length) ys := by
  obtain ⟨rest, h⟩ := h
  refine ⟨⟨ys ++ rest, by rw [h, List.append_assoc]⟩, rest, ?_⟩
  rw [← List.drop_drop, h, List.append_assoc, List.drop_left]
theorem At.len {b : List Int} {pos : Nat} {xs : List Int} (h : At b pos xs) (hx : xs ≠ []) : pos + xs.length ≤ b.length := by
  obtain ⟨rest, h⟩ := h
  have h1 := congrArg List.length h
  simp only [List.length_drop, List.length_append] at h1
  have : 0 < xs.length := List.length_pos_iff.2 hx
  omega
theorem enc_lt {n : Nat} (h : n < 128) : enc n = [(n : Int)] := by rw [enc, if_pos h]
theorem enc_ge {n : Nat} (h : ¬ n < 128) : enc n = ((n % 128 + 128 : Nat) : Int) :: enc (n / 128) := by rw [enc, if_neg h]
section
variable {σ α : Type}
def encS (E : σ → α → List Int) (next : σ → α → σ) : σ → List α → List Int
  | _, [] => []
  | s, x :: r => E s x ++ encS E next (next s x) r
def lastS (next : σ → α → σ) : σ → List α → σ
  | s, [] => s
  | s, x :: r => lastS next (next s x) r
def allS (next : σ → α → σ) (ok : σ → α → Prop) : σ → List α → Prop
  | _, [] => True
  | s, x :: r => ok s x ∧ allS next ok (next s x) r
end

theorem encOs_eq : ∀ (l : List S62) (last : Int), encOs last l = encS encO (fun _ o => o.f0) last l
  | [], _ => rfl
  | o :: r, last => by rw [encOs, encS, encOs_eq r]
end Go.Proofs.YtihjjkoddphmiaaDoor.img

namespace Go.Proofs.YtihjjkoddphmiaaDoor.img
open Go.Proofs.YtihjjkoddphmiaaDoor.PImageRound
set_option linter.unusedSimpArgs false
set_option linter.unusedVariables false

/-- All are bytes. -/
def Bytes (b : List Int) : Prop := ∀ x ∈ b, 0 ≤ x ∧ x < 256

theorem At.join {b : List Int} {pos : Nat} {xs ys : List Int} (h : At b pos xs) (k : At b (pos + xs.length) ys) : At b pos (xs ++ ys) := by
  obtain ⟨r, h⟩ := h
  obtain ⟨q, k⟩ := k
  refine ⟨q, ?_⟩
  rw [← List.drop_drop, h, List.drop_left] at k
  rw [h, k, List.append_assoc]
theorem At.nil (b : List Int) (pos : Nat) : At b pos [] := ⟨b.drop pos, rfl⟩
theorem At.cons {b : List Int} {pos : Nat} {x : Int} {xs : List Int} (hp : pos < b.length) (hx : b.getD pos 0 = x) (h : At b (pos + 1) xs) : At b pos (x :: xs) := by
  have h1 : At b pos [x] := by
    refine ⟨b.drop (pos + 1), ?_⟩
    rw [List.drop_eq_getElem_cons hp]
    rw [List.getD_eq_getElem?_getD, List.getElem?_eq_getElem hp] at hx
    simp at hx
    rw [hx]
    rfl
  exact h1.join h

theorem byte_at {b : List Int} (hb : Bytes b) {pos : Nat} (hp : pos < b.length) : b.getD pos 0 = (((b.getD pos 0).toNat : Nat) : Int) ∧ (b.getD pos 0).toNat < 256 := by
  have h : b.getD pos 0 ∈ b := by
    rw [List.getD_eq_getElem?_getD, List.getElem?_eq_getElem hp]
    exact List.getElem_mem hp
  have := hb _ h
  omega

section
variable {σ α : Type}
end

end Go.Proofs.YtihjjkoddphmiaaDoor.img

namespace Go.Proofs.YtihjjkoddphmiaaDoor.img
open Go.Proofs.YtihjjkoddphmiaaDoor.PImageRound
set_option linter.unusedSimpArgs false
set_option linter.unusedVariables false

/-- From 'pos' on stands a part of xs, and there the bytes end. -/
def Cut (b : List Int) (pos : Nat) (xs : List Int) : Prop := pos ≤ b.length ∧ ∃ k, k < xs.length ∧ b.drop pos = xs.take k

theorem Cut.app {b : List Int} {pos : Nat} {xs ys : List Int} (h : Cut b pos (xs ++ ys)) : Cut b pos xs ∨ (At b pos xs ∧ Cut b (pos + xs.length) ys) := by
  obtain ⟨hp, k, hk, h⟩ := h
  by_cases hx : k < xs.length
  · left
    refine ⟨hp, k, hx, ?_⟩
    rw [h, List.take_append_of_le_length (by omega)]
  · right
    rw [List.take_append, List.take_of_length_le (by omega)] at h
    have hl := congrArg List.length h
    simp only [List.length_drop, List.length_append, List.length_take] at hl hk
    refine ⟨⟨_, h⟩, by omega, k - xs.length, by omega, ?_⟩
    rw [← List.drop_drop, h, List.drop_left]
section
variable {σ α : Type}
end
/-- The checksum. -/
def fstep (h c : Nat) : Nat := ((h ^^^ c) * 16777619) % 4294967296
def fnv (l : List Int) : Nat := l.foldl (fun h c => fstep h c.toNat) 2166136261
theorem xor_lt {x c : Nat} (hx : x < 4294967296) (hc : c < 256) : x ^^^ c < 4294967296 := by
  have : (4294967296 : Nat) = 2 ^ 32 := by decide
  rw [this] at hx ⊢
  exact Nat.xor_lt_two_pow hx (by omega)
theorem fstep_lt (h c : Nat) : fstep h c < 4294967296 := Nat.mod_lt _ (by omega)
def fnvFrom (s : Nat) (l : List Int) : Nat := l.foldl (fun h c => fstep h c.toNat) s
theorem fnvFrom_lt (l : List Int) (s : Nat) (hs : s < 4294967296) : fnvFrom s l < 4294967296 := by
  induction l generalizing s with
  | nil => exact hs
  | cons c r ih => exact ih _ (fstep_lt _ _)
end Go.Proofs.YtihjjkoddphmiaaDoor.img

namespace Go.Proofs.YtihjjkoddphmiaaDoor.img
open Go.RowKit Go.Proofs.YtihjjkoddphmiaaDoorW.PrintWords Go.Proofs.YtihjjkoddphmiaaDoorW.PrintMore Go.Proofs.YtihjjkoddphmiaaDoor.PImageRound
set_option linter.unusedVariables false
set_option linter.unusedSimpArgs false

theorem info5 : (Tryd.prog.info? 5).map (fun i => (i.zero, i.size, i.bytes)) = some (some (.int .u8 0), 1, 1) := by kernel_rfl

/-- The writer's block and its bytes. -/
structure Wt (w0 : World) (gw : Nat) (w : World) (bs : List Int) : Prop where
  bel : Below w0.heap.size w0 w
  old : w0.heap.size ≤ gw
  row : ∃ v, w.heap[gw]? = some (.cells #[v] 75 (0, 0)) ∧ Kd.R (Kd.int .u8) 5 w w0.heap.size (fun _ => True) v bs
/-- What is no row of bytes, and not the writer, stays. -/
structure WStep (gw : Nat) (w w1 : World) : Prop where
  size : w.heap.size ≤ w1.heap.size
  keep : ∀ k t cs, k ≠ gw → t ≠ 5 → w.heap[k]? = some (.cells cs t (0, 0)) → w1.heap[k]? = some (.cells cs t (0, 0))
theorem WStep.refl (gw : Nat) (w : World) : WStep gw w w := ⟨Nat.le_refl _, fun _ _ _ _ _ h => h⟩
theorem WStep.trans {gw : Nat} {w w1 w2 : World} (h : WStep gw w w1) (h1 : WStep gw w1 w2) : WStep gw w w2 := ⟨Nat.le_trans h.size h1.size, fun k t cs hk ht hc => h1.keep k t cs hk ht (h.keep k t cs hk ht hc)⟩
theorem WStep.of_below {gw : Nat} {w w1 : World} (h : Below w.heap.size w w1) : WStep gw w w1 := ⟨h.size, fun k t cs hk ht hc => (h.block k (blk_lt hc)).trans hc⟩
theorem Wt.after {w0 : World} {gw : Nat} {w w1 : World} {bs : List Int} (h : Wt w0 gw w bs) (hb : Below w.heap.size w w1) : Wt w0 gw w1 bs := by
  obtain ⟨v, h1, h2⟩ := h.row
  exact ⟨below_step h.bel hb, h.old, v, blk_below h1 hb, Kd.R_below h2 hb⟩

/-- A byte is laid on. -/
theorem Wt.push {w0 : World} {gw : Nat} {w w1 : World} {v v1 : Value} {bs : List Int} {x : Int} (h0 : w0.heap.size ≤ gw) (h1 : w.heap[gw]? = some (.cells #[v] 75 (0, 0))) (h2 : Kd.R (Kd.int .u8) 5 w w0.heap.size (fun _ => True) v bs) (hg : w.grownBy w1 v.ownBlock) (hb : Below w0.heap.size w0 w1) (hW : Kd.R (Kd.int .u8) 5 w1 w0.heap.size (fun _ => True) v1 (bs ++ [x])) :
    Wt w0 gw (w1.setCell ⟨gw, 0, none⟩ v1) (bs ++ [x]) ∧ WStep gw w (w1.setCell ⟨gw, 0, none⟩ v1) := by
  have e2 := blk_grown h1 hg (Kd.R_ne h2 h1 (by decide))
  refine ⟨⟨below_set hb h0, h0, v1, one_setCell e2, Kd.R_set hW e2 (by decide) _ _⟩, ?_, ?_⟩
  · have := hg.size
    simpa using this
  · intro k t cs hk ht hc
    exact blk_far (blk_grown hc hg (Kd.R_ne h2 hc (fun e => ht e.symm))) hk _

theorem enc_len : ∀ (k n : Nat), n < 128 ^ (k + 1) → (enc n).length ≤ k + 1 := by
  intro k
  induction k with
  | zero => intro n h; rw [enc_lt (by simpa using h)]; simp
  | succ k ih =>
    intro n h
    by_cases h1 : n < 128
    · rw [enc_lt h1]; simp
    · rw [enc_ge h1]
      have h2 : n / 128 < 128 ^ (k + 1) := by
        rw [Nat.div_lt_iff_lt_mul (by decide)]
        rw [Nat.pow_succ] at h
        exact h
      have := ih (n / 128) h2
      simp only [List.length_cons]
      omega
theorem enc_ten {n : Nat} (h : n < 18446744073709551616) : (enc n).length ≤ 10 := enc_len 9 n (Nat.lt_trans h (by decide))

set_option maxRecDepth 1000000 in
theorem or_128 : ∀ m : Fin 256, bits BinOp.or IntKind.u8 ((m.val : Nat) : Int) 128 = ((m.val % 128 + 128 : Nat) : Int) := by decide
theorem or_byte (y : Nat) : bits BinOp.or IntKind.u8 ((y : Int) % 256) 128 = ((y % 128 + 128 : Nat) : Int) := by
  have h := or_128 ⟨y % 256, Nat.mod_lt _ (by decide)⟩
  have e : ((y : Int) % 256) = ((y % 256 : Nat) : Int) := by omega
  rw [e, h]
  congr 1
  simp only
  omega

set_option maxHeartbeats 4000000 in
set_option maxRecDepth 100000 in
theorem wnumber_any (w0 : World) (gw : Nat) (p : Addr) (x : Nat) (most : Int) (bs : List Int) (w : World) (h : Wt w0 gw w bs) (hp : w.cell? p = some (.int .u64 x)) (hx : x < 18446744073709551616) (hbs : bs.length ≤ 1000000000000) :
    Calls Tryd.prog 98 #[.pointer (some ⟨gw, 0, none⟩), .pointer (some p), .int .u64 most] w fun e w' => e = .returned (.tuple #[]) ∧ Wt w0 gw w' (bs ++ enc x) ∧ WStep gw w w' := by
  have HW := Aside0.mk h
  clear h
  have HS := Aside0.mk (WStep.refl gw w)
  obtain ⟨res, hres⟩ : ∃ r, bs ++ enc x = r := ⟨_, rfl⟩
  have HRES := Aside0.mk hres
  have hrl : res.length ≤ 1000000000011 := by
    have := enc_ten hx
    rw [← hres, List.length_append]
    omega
  rw [hres]
  clear hres
  go_enter Tryd.func98, Tryd.ntmps98
  go_wp2
  go_loopw [6] (fun a wr => ∃ (y : Nat) (us : List Int), a = .int .u64 y ∧ y < 18446744073709551616 ∧ Aside0 (us ++ enc y = res) ∧ Aside0 (Wt w0 gw wr us) ∧ Aside0 (WStep gw w wr)) (fun a _ => (intOf a).toNat)
  case atStart => exact ⟨x, bs, rfl, hx, HRES, HW, HS⟩
  case round =>
    clear HW HS HRES
    obtain ⟨y, us, rfl, hy, HRES, HW, HS⟩ := hrel
    obtain ⟨v, h1, h2⟩ := HW.out.row
    have hc := cell_of_one h1
    have HH1 := Aside0.mk h1
    have HH2 := Aside0.mk h2
    clear h1 h2
    have hul : us.length ≤ 1000000000011 := by
      have e := congrArg List.length HRES.out
      rw [List.length_append] at e
      omega
    obtain ⟨Ab, cb, rfl⟩ := Kd.R_slice HH2.out
    by_cases hlt : y < 128
    · have HE : Aside0 (us ++ [(y : Int)] = res) := ⟨by have := HRES.out; rw [enc_lt hlt] at this; exact this⟩
      go_wp2_with (first | (refine Kd.R_append (Kd.int .u8) (w0 := w0) w0.heap.size rfl (.tmp 30) (.tmp 33) 47 5 (.int .u8 0) 1 rfl Tryd.underlying47 info5 rfl (by decide) (by omega) (.slice Ab us.length cb) us (y : Int) [.int .u8 (y : Int)] (fun _ => True) (fun _ => False) rfl (by first | (go_simp; done) | (go_simp; rfl)) rfl (fun _ hk => hk.elim) (fun _ _ => trivial) HH2.out HW.out.bel (below_size HW.out.bel) (by omega) ?_; intro v1 w3 ho hb hg hat; obtain ⟨Av, cv, rfl⟩ := Kd.R_slice ho; have e3 := blk_grown HH1.out hg (Kd.R_ne HH2.out HH1.out (by decide)); have hvw3 := cell_of_one e3; have hfw3 := free_of_one e3; have HP := Aside0.mk (Wt.push HW.out.old HH1.out HH2.out hg hb ho); clear ho hb hg hat e3))
      go_end0
      have := HP.out
      rw [List.length_append, List.length_singleton] at this
      rw [HE.out] at this
      exact ⟨rfl, this.1, HS.out.trans this.2⟩
    · obtain ⟨z, hz⟩ : ∃ z, bits BinOp.or IntKind.u8 ((y : Int) % 256) 128 = z := ⟨_, rfl⟩
      have HE : Aside0 ((us ++ [z]) ++ enc (y / 128) = res) := ⟨by have := HRES.out; rw [enc_ge hlt, ← or_byte, hz] at this; simpa using this⟩
      go_wp2_with (first | (refine Kd.R_append (Kd.int .u8) (w0 := w0) w0.heap.size rfl (.tmp 18) (.tmp 22) 47 5 (.int .u8 0) 1 rfl Tryd.underlying47 info5 rfl (by decide) (by omega) (.slice Ab us.length cb) us z [.int .u8 z] (fun _ => True) (fun _ => False) rfl (by first | (go_simp; done) | (go_simp; rfl)) rfl (fun _ hk => hk.elim) (fun _ _ => trivial) HH2.out HW.out.bel (below_size HW.out.bel) (by omega) ?_; intro v1 w3 ho hb hg hat; obtain ⟨Av, cv, rfl⟩ := Kd.R_slice ho; have e3 := blk_grown HH1.out hg (Kd.R_ne HH2.out HH1.out (by decide)); have hvw3 := cell_of_one e3; have hfw3 := free_of_one e3; have HP := Aside0.mk (Wt.push HW.out.old HH1.out HH2.out hg hb ho); clear ho hb hg hat e3))
      go_roundw
      case rel =>
        have := HP.out
        rw [List.length_append, List.length_singleton] at this
        exact ⟨y / 128, us ++ [z], by go_num, by omega, HE, ⟨this.1⟩, ⟨HS.out.trans this.2⟩⟩
      case measure => simp [intOf]; omega
end Go.Proofs.YtihjjkoddphmiaaDoor.img

namespace Go.Proofs.YtihjjkoddphmiaaDoor.img
open Go.RowKit Go.Proofs.YtihjjkoddphmiaaDoorW.PrintWords Go.Proofs.YtihjjkoddphmiaaDoorW.PrintMore Go.Proofs.YtihjjkoddphmiaaDoor.PImageRound
set_option linter.unusedVariables false
set_option linter.unusedSimpArgs false

theorem setCell_id {w : World} {p : Addr} {v : Value} (h : w.cell? p = some v) : w.setCell p v = w := by
  have e : (w.setCell p v).heap = w.heap := by
    apply Array.ext_getElem?
    intro k
    simp only [World.setCell, Array.getElem?_modify]
    by_cases hk : p.block = k
    · subst hk
      rw [if_pos rfl]
      unfold World.cell? at h
      cases hb : w.heap[p.block]? with
      | none => rfl
      | some o =>
        rw [hb] at h
        cases o with
        | cells c t fr =>
          simp only at h
          simp only [Option.map_some]
          by_cases hs : p.spot.isSome = true
          · rw [if_pos hs]
          · rw [if_neg hs] at h ⊢
            have e2 : c.setIfInBounds p.off v = c := by
              apply Array.ext_getElem?
              intro j
              rw [Array.getElem?_setIfInBounds]
              by_cases hj : p.off = j
              · subst hj
                rw [if_pos rfl, h]
                have := (Array.getElem?_eq_some_iff.1 h).1
                rw [if_pos this]
              · rw [if_neg hj]
            rw [e2]
        | _ => rfl
    · rw [if_neg hk]
  have : w.setCell p v = { w with heap := (w.setCell p v).heap } := rfl
  rw [this, e]

/-- A place that a writer lets be. -/
def Safe (w0 : World) (gw : Nat) (w : World) (p : Addr) : Prop := p.block < w0.heap.size ∨ ∃ t cs, p.block ≠ gw ∧ t ≠ 5 ∧ w.heap[p.block]? = some (.cells cs t (0, 0))
theorem Safe.heap {w0 w w1 : World} {gw : Nat} {p : Addr} (h : Safe w0 gw w p) (h0 : Below w0.heap.size w0 w) (h1 : Below w0.heap.size w0 w1) (hs : WStep gw w w1) : w1.heap[p.block]? = w.heap[p.block]? := by
  rcases h with h | ⟨t, cs, hne, ht, hc⟩
  · rw [h0.block _ h, h1.block _ h]
  · rw [hc]; exact hs.keep _ _ _ hne ht hc
theorem Safe.move {w0 w w1 : World} {gw : Nat} {p : Addr} (h : Safe w0 gw w p) (hs : WStep gw w w1) : Safe w0 gw w1 p := by
  rcases h with h | ⟨t, cs, hne, ht, hc⟩
  · exact .inl h
  · exact .inr ⟨t, cs, hne, ht, hs.keep _ _ _ hne ht hc⟩
theorem cell_block {w w1 : World} {p : Addr} (h : w1.heap[p.block]? = w.heap[p.block]?) : w1.cell? p = w.cell? p := by unfold World.cell?; rw [h]
theorem frozen_block {w w1 : World} {p : Addr} (h : w1.heap[p.block]? = w.heap[p.block]?) : w1.frozen? p = w.frozen? p := by unfold World.frozen?; rw [h]

theorem method_w (a : Addr) (w : World) : (method 250 73 (.pointer (some a)) "midden/image.number").run Tryd.prog w = .ok (98, .pointer (some a)) w := by kernel_rfl
set_option maxHeartbeats 4000000 in
set_option maxRecDepth 100000 in
theorem winteger_any (w0 : World) (gw : Nat) (p : Addr) (n more : Int) (bs : List Int) (w : World) (h : Wt w0 gw w bs) (hp : w.cell? p = some (.int .i64 n)) (hf : w.frozen? p = false) (hsf : Safe w0 gw w p) (h0 : 0 ≤ n + more) (h1 : n + more ≤ 4611686018427387905) (hm : 0 ≤ more ∧ more ≤ 1) (hbs : bs.length ≤ 1000000000000) :
    Calls Tryd.prog 67 #[.iface 73 (.pointer (some ⟨gw, 0, none⟩)), .pointer (some p), .int .i64 more] w fun e w' => e = .returned (.tuple #[]) ∧ Wt w0 gw w' (bs ++ encI more n) ∧ WStep gw w w' := by
  have hmw := method_w ⟨gw, 0, none⟩
  have HB : Aside0 (Below w.heap.size w (w.alloc (.cells #[.int .u64 (n + more)] 25))) := ⟨below_alloc (Below.refl _ _) _⟩
  have HW := Aside0.mk h
  have HSF := Aside0.mk hsf
  have HP := Aside0.mk hp
  have HF := Aside0.mk hf
  have HC : Aside0 ((w.alloc (.cells #[.int .u64 (n + more)] 25)).heap[w.heap.size]? = some (.cells #[.int .u64 (n + more)] 25 (0, 0))) := ⟨heap_alloc_new w _⟩
  have HCN : Aside0 (∀ wx, Wt w0 gw wx bs → wx.cell? ⟨w.heap.size, 0, none⟩ = some (.int .u64 (n + more)) → Calls Tryd.prog 98 #[.pointer (some ⟨gw, 0, none⟩), .pointer (some ⟨w.heap.size, 0, none⟩), .int .u64 4611686018427387905] wx fun e w' => e = .returned (.tuple #[]) ∧ Wt w0 gw w' (bs ++ encI more n) ∧ WStep gw wx w') := ⟨fun wx hwx hc => by
    have := wnumber_any w0 gw ⟨w.heap.size, 0, none⟩ (n + more).toNat 4611686018427387905 bs wx hwx (by rw [hc]; congr 2; omega) (by omega) hbs
    exact this⟩
  have hgw : w.heap.size ≠ gw := by
    obtain ⟨v, hv, -⟩ := h.row
    have := blk_lt hv
    omega
  have HNE := Aside0.mk hgw
  clear h hsf hgw hf
  go_enter Tryd.func67, Tryd.ntmps67
  go_wp2_with (fail)
  refine (HCN.out _ (HW.out.after HB.out) (cell_of_one HC.out)).mono ?_
  rintro en w2 ⟨rfl, hw2, hs2⟩
  have HW2 := Aside0.mk hw2
  have HS2 := Aside0.mk hs2
  have hcx := cell_of_one (hs2.keep _ _ _ HNE.out (by decide) HC.out)
  have hb1 : (w.alloc (.cells #[.int .u64 (n + more)] 25)).heap[p.block]? = w.heap[p.block]? := HB.out.block _ (World.block_lt_of_cell? w _ hp)
  have hb2 := (Safe.heap (HSF.out.move (WStep.of_below HB.out)) (HW.out.after HB.out).bel hw2.bel hs2).trans hb1
  have hp2 : w2.cell? p = some (.int .i64 n) := (cell_block hb2).trans hp
  have hf2 : w2.frozen? p = false := (frozen_block hb2).trans HF.out
  have hid := setCell_id hp2
  have HID := Aside0.mk hid
  clear hw2 hs2 hb1 hb2 hid hp
  go_wp2
  go_end0
  rw [HID.out]
  exact ⟨rfl, HW2.out, (WStep.of_below HB.out).trans HS2.out⟩
end Go.Proofs.YtihjjkoddphmiaaDoor.img

namespace Go.Proofs.YtihjjkoddphmiaaDoor.img
open Go.RowKit Go.Proofs.YtihjjkoddphmiaaDoorW.PrintWords Go.Proofs.YtihjjkoddphmiaaDoorW.PrintMore Go.Proofs.YtihjjkoddphmiaaDoor.PImageRound
set_option linter.unusedVariables false
set_option linter.unusedSimpArgs false

/-- What a reader that gives up leaves: the written block (gp, of n cells) has its shape. -/
structure Bd (w0 w : World) (gr gp t n : Nat) (D : Nat → Prop) (w' : World) : Prop where
  bel : Below w0.heap.size w0 w'
  kept : Kept w w' (fun k => k = gr ∨ k = gp ∨ D k)
  blk : ∃ cs', w'.heap[gp]? = some (.cells cs' t (0, 0)) ∧ cs'.size = n
section
variable {w0 w wi w2 : World} {gr gp gx t tx n m : Nat} {D D2 : Nat → Prop} {cs' : Array Value}
theorem Bd.below (h : Bd w0 w gr gp t n D wi) (hb : Below wi.heap.size wi w2) : Bd w0 w gr gp t n D w2 := by
  obtain ⟨c, h1, h2⟩ := h.blk
  exact ⟨below_step h.bel hb, h.kept.below hb, c, blk_below h1 hb, h2⟩
theorem Bd.same (hk : Kept w wi (fun k => k = gr ∨ k = gp ∨ D k)) (h : Bd w0 wi gr gp t n D2 w2) (hD : ∀ k, D2 k → D k ∨ w.heap.size ≤ k) : Bd w0 w gr gp t n D w2 :=
  ⟨h.bel, hk.then_ h.kept (fun k e => e.elim (fun e => .inl (.inl e)) (fun e => e.elim (fun e => .inl (.inr (.inl e))) (fun e => (hD k e).elim (fun e => .inl (.inr (.inr e))) .inr))), h.blk⟩
theorem Bd.new (hk : Kept w wi (fun k => k = gr ∨ k = gp ∨ D k)) (hb : wi.heap[gp]? = some (.cells cs' t (0, 0))) (hn : cs'.size = n) (h : Bd w0 wi gr gx tx m D2 w2) (hgx : w.heap.size ≤ gx) (hne : gp ≠ gr) (hgp : gp < w.heap.size) (hD : ∀ k, D2 k → (D k ∨ w.heap.size ≤ k) ∧ k ≠ gp) : Bd w0 w gr gp t n D w2 :=
  ⟨h.bel, hk.then_ h.kept (fun k e => e.elim (fun e => .inl (.inl e)) (fun e => e.elim (fun e => .inr (by omega)) (fun e => (hD k e).1.elim (fun e => .inl (.inr (.inr e))) .inr))),
    cs', blk_kept hb h.kept (fun e => e.elim hne (fun e => e.elim (fun e => by omega) (fun e => (hD _ e).2 rfl))), hn⟩
end

/-- The reader's block: the bytes, the place. -/
structure Rr (w0 : World) (gr : Nat) (B : Option Addr) (c : Nat) (bs : List Int) (pos : Nat) (w : World) : Prop where
  bel : Below w0.heap.size w0 w
  old : w0.heap.size ≤ gr
  blk : w.heap[gr]? = some (.cells #[.slice B bs.length c, .int .i64 pos] 93 (0, 0))
  row : Kd.C (Kd.int .u8) w0 B bs.length bs
  le : pos ≤ bs.length
theorem Rr.move {w0 w w1 : World} {gr c pos : Nat} {B : Option Addr} {bs : List Int} {S : Nat → Prop} (h : Rr w0 gr B c bs pos w) (hk : Kept w w1 S) (hb : Below w0.heap.size w0 w1) (hg : ¬ S gr) : Rr w0 gr B c bs pos w1 :=
  ⟨hb, h.old, blk_kept h.blk hk hg, h.row, h.le⟩
theorem Rr.below {w0 w w1 : World} {gr c pos : Nat} {B : Option Addr} {bs : List Int} (h : Rr w0 gr B c bs pos w) (hb : Below w.heap.size w w1) : Rr w0 gr B c bs pos w1 :=
  ⟨below_step h.bel hb, h.old, blk_below h.blk hb, h.row, h.le⟩
theorem Rr.set {w0 w : World} {gr c pos : Nat} {B : Option Addr} {bs : List Int} (h : Rr w0 gr B c bs pos w) {q : Nat} (hq : q ≤ bs.length) : Rr w0 gr B c bs q (w.setCell ⟨gr, 1, none⟩ (.int .i64 q)) :=
  ⟨below_set h.bel h.old, h.old, blk_put h.blk 1 _ rfl, h.row, hq⟩
theorem Rr.other {w0 w : World} {gr c pos : Nat} {B : Option Addr} {bs : List Int} (h : Rr w0 gr B c bs pos w) {g j : Nat} (hg : g ≠ gr) (h0 : w0.heap.size ≤ g) (v : Value) : Rr w0 gr B c bs pos (w.setCell ⟨g, j, none⟩ v) :=
  ⟨below_set h.bel h0, h.old, blk_far h.blk (fun e => hg e.symm) _, h.row, h.le⟩

/-- A world's facts in the place of the world. -/
theorem wp_world {P : Program} {c : Code} {Q : Exit → Act → World → Prop} {a : Act} {w1 : World} {p : World → Prop} (h : p w1) (k : ∀ w2, p w2 → c.wp P Q a w2) : c.wp P Q a w1 := k w1 h

/-- The number's loop: where it stands. -/
structure RN (w0 w : World) (gr gp off t c pos q : Nat) (B : Option Addr) (bs : List Int) (cs : Array Value) (v : Int) (wr : World) : Prop where
  rr : Rr w0 gr B c bs q wr
  kept : Kept w wr (fun k => k = gr ∨ k = gp)
  blk : wr.heap[gp]? = some (.cells (cs.setIfInBounds off (.int .u64 v)) t (0, 0))
  fl : wr.heap[w.heap.size]? = some (.cells #[.int .i64 pos, .int .i64 161] 90 (0, 0))
theorem RN.bd {w0 w wr : World} {gr gp off t c pos q : Nat} {B : Option Addr} {bs : List Int} {cs : Array Value} {v : Int} (h : RN w0 w gr gp off t c pos q B bs cs v wr) : Bd w0 w gr gp t cs.size (fun _ => False) wr :=
  ⟨h.rr.bel, h.kept.mono (fun k e => e.elim .inl (fun e => .inr (.inl e))), _, h.blk, by simp⟩

theorem wrap_small {i : Int} (h : -9223372036854775808 ≤ i ∧ i ≤ 9223372036854775807) : wrap64 i = i := by unfold wrap64; omega
end Go.Proofs.YtihjjkoddphmiaaDoor.img

namespace Go.Proofs.YtihjjkoddphmiaaDoor.img
open Go.RowKit Go.Proofs.YtihjjkoddphmiaaDoorW.PrintWords Go.Proofs.YtihjjkoddphmiaaDoorW.PrintMore Go.Proofs.YtihjjkoddphmiaaDoor.PImageRound
set_option linter.unusedVariables false
set_option linter.unusedSimpArgs false

end Go.Proofs.YtihjjkoddphmiaaDoor.img
