/-
  The Book of middenkept: a list that waited is written over.
-/
import Derived.Test.YtihjjkoddphmiaaGreatDoorNBkQ
namespace Go.Proofs.YtihjjkoddphmiaaGreatDoor.bk
open Go.RowKit Go.Proofs.YtihjjkoddphmiaaGreatDoorW.PrintWords
set_option linter.unusedVariables false
set_option linter.unusedSimpArgs false
theorem rds_new (s : Nat → Option Bl) (k : Nat) {g : Bl} {q n c : Nat} (hq : g.kd = q) (hn : n ≤ g.n) (h1 : n ≤ 1099511627776 := by decide) : RdS (upd s k (some g)) q (.slice (some ⟨k, 0, none⟩) n c) := ⟨_, n, c, rfl, h1, fun _ => ⟨k, g, rfl, upd_same _ _ _, hq, hn⟩⟩
theorem one_int (s : Nat → Option Bl) (y : Int) : TyL s ⟨1, 3, 1, 1, [.int .i64 y]⟩ := by
 refine ⟨show 1 ≤ 1099511627776 by decide, fun h => by simp at h, fun i hi => ?_, fun u hu => by rw [List.mem_singleton.1 hu]; rfl⟩
 have : i < 1 := hi
 obtain rfl : i = 0 := by omega
 exact ⟨y, rfl⟩
theorem one_list (s : Nat → Option Bl) {v : Value} (hv : RdS s 1 v) : TyL s ⟨9, 3, 1, 1, [v]⟩ := by
 refine ⟨show 1 ≤ 1099511627776 by decide, fun h => by simp at h, fun i hi => ?_, fun u hu => ?_⟩
 ·have : i < 1 := hi
  obtain rfl : i = 0 := by omega
  exact ⟨v, rfl, hv⟩
 ·rw [List.mem_singleton.1 hu]; obtain ⟨A, n, c, rfl, -⟩ := hv; rfl
/-- The list v (part r, cells L) is being written, all else stands. -/
structure Wq (m : Nat → Prop) (bk q r : Nat) (s1 : Nat → Option Bl) (V : Nat → Value) (X : Nat → List Value) (w0 : World) (v : Value) (A : Option Addr) (n c : Nat) (s2 : Nat → Option Bl) (L : List Value) (wr : World) : Prop where
 sh : Sh m wr bk s2 V X
 ty : Typ s2
 vl : Vl s2 q r v A n c L
 old : ∀ k g, s1 k = some g → v.ownBlock ≠ some k → s2 k = some g
 fr : Fr m w0 wr
section
variable {m : Nat → Prop} {w0 wr w1 : World} {bk q r n c : Nat} {s1 s2 : Nat → Option Bl} {V : Nat → Value} {X : Nat → List Value} {v x : Value} {A : Option Addr} {L : List Value}
theorem Wq.start (h : Sh m w0 bk s1 V X) (ht : Typ s1) (hv : Vl s1 q r v A n c L) : Wq m bk q r s1 V X w0 v A n c s1 L w0 := ⟨h, ht, hv, fun _ _ e _ => e, Fr.refl _ _⟩
theorem Wq.blk (h : Wq m bk q r s1 V X w0 v A n c s2 L wr) (hn : 0 < n) : ∃ k, A = some ⟨k, 0, none⟩ := by
 rcases h.vl.2 with ⟨-, e, -⟩ | ⟨k, e, -⟩
 ·omega
 ·exact ⟨k, e⟩
theorem set_drop1 {L : List Value} {j i : Nat} {x : Value} (hi : i < L.length) : ((L.set j x).drop i).take 1 = if j = i then [x] else (L.drop i).take 1 := by
 have e1 : ∀ (l : List Value) (h : i < l.length), (l.drop i).take 1 = [l[i]] := fun l h => by rw [List.drop_eq_getElem_cons h]; rfl
 rw [e1 _ (by simpa using hi), e1 _ hi, List.getElem_set]
 split <;> rfl
theorem Typ.at {k : Nat} {g : Bl} (h : Typ s1) (hk : s1 k = some g) : TyL s1 g := h k g hk
/-- One element of one cell. -/
theorem Wq.set (h : Wq m bk q r s1 V X w0 v A n c s2 L wr) {k j : Nat} (hA : A = some ⟨k, 0, none⟩) (hz : esz q = 1) (hj : j < n) (hx : TyE s2 q [x]) (h1 : x.oneCell' = true) : ∃ s3 L3, Wq m bk q r s1 V X w0 v A n c s3 L3 (wr.setCell ⟨k, j, none⟩ x) := by
 subst hA
 obtain ⟨rfl, ⟨e, -⟩ | ⟨k', e, hk⟩⟩ := h.vl
 ·cases e
 ·cases e
  have hT := h.ty.at hk
  have hl : L.length = n * esz q := (h.sh.fit k _ hk).2.1
  have hle := Le.change (g2 := ⟨q, r, n, c, L.set j x⟩) hk rfl (Nat.le_refl _)
  refine ⟨_, L.set j x, h.sh.write hk x, h.ty.put hle ⟨hT.le, hT.le2, fun i hi => ?_, fun u hu => ?_⟩, ⟨rfl, .inr ⟨k, rfl, upd_same _ _ _⟩⟩, fun i g e1 e2 => ?_, h.fr.then_ (Fr.set (h.sh.ms k _ hk) _)⟩
  ·show TyE _ q (((L.set j x).drop (i * esz q)).take (esz q))
   have hi' : i < n := hi
   rw [hz, Nat.mul_one, set_drop1 (by rw [hl, hz]; omega)]
   split
   ·exact hx.mono hle
   ·have := hT.el i hi
    simp only [hz, Nat.mul_one] at this
    exact this.mono hle
  ·rcases List.mem_or_eq_of_mem_set hu with hu | rfl
   ·exact hT.one u hu
   ·exact h1
  ·rw [upd_ne _ _ (fun e => e2 (by rw [e]; rfl))]; exact h.old i g e1 e2
theorem upd_upd {β : Type} (f : Nat → β) (k : Nat) (a b : β) : upd (upd f k a) k b = upd f k b := by
 funext i; unfold upd; split <;> rfl
theorem set_drop5 {L : List Value} {n j i : Nat} {a b e p r : Value} (hl : L.length = n * 5) (hi : i < n) (hj : j < n) : ((((((L.set (j * 5) a).set (j * 5 + 1) b).set (j * 5 + 2) e).set (j * 5 + 3) p).set (j * 5 + 4) r).drop (i * 5)).take 5 = if j = i then [a, b, e, p, r] else (L.drop (i * 5)).take 5 := by
 apply List.ext_getElem?
 intro t
 by_cases ht : t < 5
 ·by_cases e : j = i
  ·subst e
   rw [if_pos rfl]
   rcases (show t = 0 ∨ t = 1 ∨ t = 2 ∨ t = 3 ∨ t = 4 by omega) with rfl | rfl | rfl | rfl | rfl <;> simp [List.getElem?_take, List.getElem?_drop, List.getElem?_set] <;> omega
  ·rw [if_neg e]
   simp only [List.getElem?_take, if_pos ht, List.getElem?_drop, List.getElem?_set]
   rw [if_neg (by omega), if_neg (by omega), if_neg (by omega), if_neg (by omega), if_neg (by omega)]
 ·rw [List.getElem?_take, if_neg ht]
  split
  ·rw [List.getElem?_eq_none (by simp; omega)]
  ·rw [List.getElem?_take, if_neg ht]
/-- An object. -/
theorem Wq.set5 (h : Wq m bk 12 r s1 V X w0 v A n c s2 L wr) {k j : Nat} (hA : A = some ⟨k, 0, none⟩) (hj : j < n) (x y z : Int) :
  ∃ s3 L3, Wq m bk 12 r s1 V X w0 v A n c s3 L3 (((((wr.setCell ⟨k, j * 5, none⟩ (.int .u64 x)).setCell ⟨k, j * 5 + 1, none⟩ (.int .i64 y)).setCell ⟨k, j * 5 + 2, none⟩ (.int .i64 z)).setCell ⟨k, j * 5 + 3, none⟩ (.slice none 0 0)).setCell ⟨k, j * 5 + 4, none⟩ (.slice none 0 0)) := by
 subst hA
 obtain ⟨rfl, ⟨e, -⟩ | ⟨k', e, hk⟩⟩ := h.vl
 ·cases e
 ·cases e
  have hT := h.ty.at hk
  have hl : L.length = n * 5 := (h.sh.fit k _ hk).2.1
  have a1 := h.sh.write hk (i := j * 5) (.int .u64 x)
  have a2 := a1.write (upd_same _ _ _) (i := j * 5 + 1) (.int .i64 y)
  have a3 := a2.write (upd_same _ _ _) (i := j * 5 + 2) (.int .i64 z)
  have a4 := a3.write (upd_same _ _ _) (i := j * 5 + 3) (.slice none 0 0)
  have a5 := a4.write (upd_same _ _ _) (i := j * 5 + 4) (.slice none 0 0)
  simp only [upd_upd] at a5
  have hle := Le.change (g2 := ⟨12, r, n, c, ((((L.set (j * 5) (.int .u64 x)).set (j * 5 + 1) (.int .i64 y)).set (j * 5 + 2) (.int .i64 z)).set (j * 5 + 3) (.slice none 0 0)).set (j * 5 + 4) (.slice none 0 0)⟩) hk rfl (Nat.le_refl _)
  refine ⟨_, _, a5, h.ty.put hle ⟨hT.le, hT.le2, fun i hi => ?_, fun u hu => ?_⟩, ⟨rfl, .inr ⟨k, rfl, upd_same _ _ _⟩⟩, fun i g e1 e2 => ?_, h.fr.then_ (((((Fr.set (h.sh.ms k _ hk) _).then_ (Fr.set (h.sh.ms k _ hk) _)).then_ (Fr.set (h.sh.ms k _ hk) _)).then_ (Fr.set (h.sh.ms k _ hk) _)).then_ (Fr.set (h.sh.ms k _ hk) _))⟩
  ·have hi' : i < n := hi
   have e5 := set_drop5 (a := .int .u64 x) (b := .int .i64 y) (e := .int .i64 z) (p := .slice none 0 0) (r := .slice none 0 0) hl hi' hj
   show TyE _ 12 ((List.drop (i * 5) _).take 5)
   rw [e5]
   split
   ·exact ⟨x, y, z, _, _, rfl, ⟨none, 0, 0, rfl, by omega, fun h => by omega⟩, ⟨none, 0, 0, rfl, by omega, fun h => by omega⟩⟩
   ·exact (hT.el i hi).mono hle
  ·have hu' : u ∈ ((((L.set (j * 5) (.int .u64 x)).set (j * 5 + 1) (.int .i64 y)).set (j * 5 + 2) (.int .i64 z)).set (j * 5 + 3) (.slice none 0 0)).set (j * 5 + 4) (.slice none 0 0) := hu
   rcases List.mem_or_eq_of_mem_set hu' with hu' | rfl
   ·rcases List.mem_or_eq_of_mem_set hu' with hu' | rfl
    ·rcases List.mem_or_eq_of_mem_set hu' with hu' | rfl
     ·rcases List.mem_or_eq_of_mem_set hu' with hu' | rfl
      ·rcases List.mem_or_eq_of_mem_set hu' with hu' | rfl
       ·exact hT.one u hu'
       ·rfl
      ·rfl
     ·rfl
    ·rfl
   ·rfl
  ·rw [upd_ne _ _ (fun e => e2 (by rw [e]; rfl))]; exact h.old i g e1 e2
/-- A new block beside it. -/
theorem Wq.new (h : Wq m bk q r s1 V X w0 v A n c s2 L wr) {k : Nat} {g : Bl} (hn : wr.heap.size ≤ k) (hg : wr.grownBy w1 none) (ho : w1.ownsRow 0 (ety g.kd) (esz g.kd) (.slice (some ⟨k, 0, none⟩) g.n g.cap) g.n g.L) (hT : TyL s2 g) : Wq m bk q r s1 V X w0 v A n c (upd s2 k (some g)) L w1 := by
 have hf := h.sh.fresh hn
 have hne : ∀ i gi, s2 i = some gi → upd s2 k (some g) i = some gi := fun i gi hi => by rw [upd_ne _ _ (fun e => by rw [e, hf] at hi; cases hi)]; exact hi
 exact ⟨h.sh.new hn hg ho, h.ty.put (Le.new hf g) (hT.mono (Le.new hf g)), h.vl.far (fun i gi e1 _ => hne i gi e1), fun i gi e1 e2 => hne i gi (h.old i gi e1 e2), h.fr.then_ (h.sh.frS hg)⟩
/-- The cell that is written. -/
theorem Wq.at (h : Wq m bk q r s1 V X w0 v A n c s2 L wr) {k : Nat} (hA : A = some ⟨k, 0, none⟩) {i : Nat} (hi : i < n * esz q) : ∃ u, wr.cell? ⟨k, i, none⟩ = some u ∧ wr.frozen? ⟨k, i, none⟩ = false := by
 subst hA
 obtain ⟨rfl, ⟨e, -⟩ | ⟨k', e, hk⟩⟩ := h.vl
 ·cases e
 ·cases e
  obtain ⟨u, -, h1, h2⟩ := h.sh.kcell hk hi
  exact ⟨u, h1, h2⟩
end
end Go.Proofs.YtihjjkoddphmiaaGreatDoor.bk
