/-
  The walks of middenkept's same..: of two slices of the same elements they say true.
-/
import Derived.Test.YtihjjkoddphmiaaGreatDoorNBkA
import Derived.Test.YtihjjkoddphmiaaGreatDoorNIm3
import Derived.Laws.Rows
import Derived.Laws.CopyRow
import Derived.Deep.DeepCutAuto
namespace Go.Proofs.YtihjjkoddphmiaaGreatDoor.bk
open Go.RowKit Go.Proofs.YtihjjkoddphmiaaGreatDoorW.PrintWords
set_option linter.unusedVariables false
set_option linter.unusedSimpArgs false

/-- A slice of kept elements that may be read. -/
def RdS (s : Nat → Option Bl) (q : Nat) (v : Value) : Prop := ∃ A n c, v = .slice A n c ∧ n ≤ 1099511627776 ∧ (0 < n → ∃ k g, A = some ⟨k, 0, none⟩ ∧ s k = some g ∧ g.kd = q ∧ n ≤ g.n)
/-- One element's cells. -/
def TyE (s : Nat → Option Bl) (q : Nat) (cs : List Value) : Prop :=
 if q = 0 then ∃ x, cs = [.int .u8 x] else if q = 1 then ∃ x, cs = [.int .i64 x] else if q = 3 then ∃ x, cs = [.int .u64 x]
 else if q = 9 then ∃ v, cs = [v] ∧ RdS s 1 v else if q = 11 then ∃ v, cs = [v] ∧ RdS s 9 v
 else ∃ a b c p r, cs = [.int .u64 a, .int .i64 b, .int .i64 c, p, r] ∧ RdS s 1 p ∧ RdS s 3 r
/-- A kept block's elements. -/
structure TyL (s : Nat → Option Bl) (g : Bl) : Prop where
 le : g.n ≤ 1099511627776
 le2 : g.role ≤ 2 → g.n ≤ 1073741824
 el : ∀ i, i < g.n → TyE s g.kd ((g.L.drop (i * esz g.kd)).take (esz g.kd))
 one : ∀ u ∈ g.L, u.oneCell' = true
def Typ (s : Nat → Option Bl) : Prop := ∀ k g, s k = some g → TyL s g
def Le (s s' : Nat → Option Bl) : Prop := ∀ k g, s k = some g → ∃ g', s' k = some g' ∧ g'.kd = g.kd ∧ g.n ≤ g'.n
/-- Two slices of the same elements. -/
def Pr (s : Nat → Option Bl) (q : Nat) (a b : Nat → Prop) (v u : Value) : Prop :=
 ∃ A B n c d, v = .slice A n c ∧ u = .slice B n d ∧ n ≤ 1099511627776 ∧ (0 < n → ∃ k l g h, A = some ⟨k, 0, none⟩ ∧ B = some ⟨l, 0, none⟩ ∧ s k = some g ∧ s l = some h ∧ g.kd = q ∧ h.kd = q ∧ a g.role ∧ b h.role ∧ n ≤ g.n ∧ n ≤ h.n ∧ g.L.take (n * esz q) = h.L.take (n * esz q))
/-- A slice whose block is its own, of part r. -/
def Ex (s : Nat → Option Bl) (q r : Nat) (v : Value) : Prop := v = .slice none 0 0 ∨ ∃ k g, v = .slice (some ⟨k, 0, none⟩) g.n g.cap ∧ s k = some g ∧ g.kd = q ∧ g.role = r
/-- The same, its cells told. -/
def Vl (s : Nat → Option Bl) (q r : Nat) (v : Value) (A : Option Addr) (n c : Nat) (L : List Value) : Prop := v = .slice A n c ∧ (A = none ∧ n = 0 ∧ c = 0 ∧ L = [] ∨ ∃ k, A = some ⟨k, 0, none⟩ ∧ s k = some ⟨q, r, n, c, L⟩)
theorem Ex.vl {s : Nat → Option Bl} {q r : Nat} {v : Value} (h : Ex s q r v) : ∃ A n c L, Vl s q r v A n c L := by
 rcases h with h | ⟨k, ⟨q', r', n, c, L⟩, e, h1, h2, h3⟩
 ·exact ⟨none, 0, 0, [], h, .inl ⟨rfl, rfl, rfl, rfl⟩⟩
 ·cases h2; cases h3
  exact ⟨_, n, c, L, e, .inr ⟨k, rfl, h1⟩⟩
def Ne2 (a b : Value) : Prop := ∀ k, a.ownBlock = some k → b.ownBlock ≠ some k
theorem Ne2.symm {a b : Value} (h : Ne2 a b) : Ne2 b a := fun k hb ha => h k ha hb
/-- One kind's lists. -/
structure Ki (s : Nat → Option Bl) (q R : Nat) (os ts ws ns fs : List Value) : Prop where
 ot : ts.length = os.length
 wn : ns.length = ws.length
 op : ∀ (i : Nat) (v u : Value), os[i]? = some v → ts[i]? = some u → Pr s q (2 ≤ ·) (2 ≤ ·) v u
 wp : ∀ (i : Nat) (v u : Value), ws[i]? = some v → ns[i]? = some u → Pr s q (· = 1) (2 ≤ ·) v u
 we : ∀ v ∈ ws, Ex s q 1 v
 fe : ∀ v ∈ fs, Ex s q 2 v
 wd : ws.Pairwise Ne2
 fd : fs.Pairwise Ne2
 rm : os.length + 2 * ws.length + fs.length ≤ R
section
variable {s s' s2 : Nat → Option Bl} {q R k : Nat} {v u t : Value} {a b : Nat → Prop} {g g2 : Bl} {os ts ws ns fs : List Value}
theorem Le.new (h : s k = none) (g : Bl) : Le s (upd s k (some g)) := fun i gi hi => ⟨gi, by rw [upd_ne _ _ (fun e => by rw [e, h] at hi; cases hi)]; exact hi, rfl, Nat.le_refl _⟩
theorem Le.change (h : s k = some g) (hk : g2.kd = g.kd) (hn : g.n ≤ g2.n) : Le s (upd s k (some g2)) := fun i gi hi => by
 by_cases e : i = k
 ·subst e; rw [h] at hi; cases hi; exact ⟨g2, upd_same _ _ _, hk, hn⟩
 ·exact ⟨gi, by rw [upd_ne _ _ e]; exact hi, rfl, Nat.le_refl _⟩
theorem RdS.mono (h : RdS s q v) (hl : Le s s') : RdS s' q v := by
 obtain ⟨A, n, c, e, hn, hk⟩ := h
 refine ⟨A, n, c, e, hn, fun h0 => ?_⟩
 obtain ⟨k, g, e1, e2, e3, e4⟩ := hk h0
 obtain ⟨g1, f1, f2, f3⟩ := hl k g e2
 exact ⟨k, g1, e1, f1, f2.trans e3, Nat.le_trans e4 f3⟩
theorem TyE.mono {cs : List Value} (h : TyE s q cs) (hl : Le s s') : TyE s' q cs := by
 unfold TyE at *
 by_cases h0 : q = 0
 ·rw [if_pos h0] at *; exact h
 rw [if_neg h0] at *
 by_cases h0 : q = 1
 ·rw [if_pos h0] at *; exact h
 rw [if_neg h0] at *
 by_cases h0 : q = 3
 ·rw [if_pos h0] at *; exact h
 rw [if_neg h0] at *
 by_cases h0 : q = 9
 ·rw [if_pos h0] at *
  obtain ⟨v, e, h⟩ := h; exact ⟨v, e, h.mono hl⟩
 rw [if_neg h0] at *
 by_cases h0 : q = 11
 ·rw [if_pos h0] at *
  obtain ⟨v, e, h⟩ := h; exact ⟨v, e, h.mono hl⟩
 rw [if_neg h0] at *
 obtain ⟨a, b, c, p, r, e, h1, h2⟩ := h; exact ⟨a, b, c, p, r, e, h1.mono hl, h2.mono hl⟩
theorem TyL.mono (h : TyL s g) (hl : Le s s') : TyL s' g := ⟨h.le, h.le2, fun i hi => (h.el i hi).mono hl, h.one⟩
theorem Typ.put (h : Typ s) (hl : Le s (upd s k (some g))) (hg : TyL (upd s k (some g)) g) : Typ (upd s k (some g)) := fun i gi hi => by
 by_cases e : i = k
 ·subst e; rw [upd_same] at hi; cases hi; exact hg
 ·rw [upd_ne _ _ e] at hi; exact (h i gi hi).mono hl
theorem Pr.move (h : Pr s q a b v u) (hs : ∀ k g, s k = some g → g.kd = q → (v.ownBlock = some k ∧ a g.role ∨ u.ownBlock = some k ∧ b g.role) → ∃ g', s' k = some g' ∧ g'.kd = q ∧ (a g.role → a g'.role) ∧ (b g.role → b g'.role) ∧ g.n ≤ g'.n ∧ g'.L.take (g.n * esz q) = g.L.take (g.n * esz q)) : Pr s' q a b v u := by
 obtain ⟨A, B, n, c, d, rfl, rfl, hn, hk⟩ := h
 refine ⟨A, B, n, c, d, rfl, rfl, hn, fun h0 => ?_⟩
 obtain ⟨k, l, g, h, rfl, rfl, e1, e2, e3, e4, e5, e6, e7, e8, e9⟩ := hk h0
 obtain ⟨g1, f1, f2, f3, f4, f5, f6⟩ := hs k g e1 e3 (.inl ⟨rfl, e5⟩)
 obtain ⟨h1, i1, i2, i3, i4, i5, i6⟩ := hs l h e2 e4 (.inr ⟨rfl, e6⟩)
 refine ⟨k, l, g1, h1, rfl, rfl, f1, i1, f2, i2, f3 e5, i4 e6, Nat.le_trans e7 f5, Nat.le_trans e8 i5, ?_⟩
 have hk1 : n * esz q ≤ g.n * esz q := Nat.mul_le_mul_right _ e7
 have hk2 : n * esz q ≤ h.n * esz q := Nat.mul_le_mul_right _ e8
 have t1 : g1.L.take (n * esz q) = g.L.take (n * esz q) := by
  have := congrArg (List.take (n * esz q)) f6
  rwa [List.take_take, List.take_take, Nat.min_eq_left hk1] at this
 have t2 : h1.L.take (n * esz q) = h.L.take (n * esz q) := by
  have := congrArg (List.take (n * esz q)) i6
  rwa [List.take_take, List.take_take, Nat.min_eq_left hk2] at this
 rw [t1, t2, e9]
theorem Pr.far (h : Pr s q a b v u) (hs : ∀ k g, s k = some g → g.kd = q → (v.ownBlock = some k ∧ a g.role ∨ u.ownBlock = some k ∧ b g.role) → s' k = some g) : Pr s' q a b v u :=
 h.move (fun k g h1 h2 h3 => ⟨g, hs k g h1 h2 h3, h2, id, id, Nat.le_refl _, rfl⟩)
theorem Ex.far {r : Nat} (h : Ex s q r v) (hs : ∀ k g, s k = some g → g.kd = q → g.role = r → v.ownBlock = some k → s' k = some g) : Ex s' q r v := by
 rcases h with h | ⟨k, g, e, h1, h2, h3⟩
 ·exact .inl h
 ·exact .inr ⟨k, g, e, hs k g h1 h2 h3 (by rw [e]; rfl), h2, h3⟩
/-- Where this kind's noted blocks stay. -/
theorem Ki.far (h : Ki s q R os ts ws ns fs) (hs : ∀ k g, s k = some g → g.kd = q → 1 ≤ g.role → s' k = some g) : Ki s' q R os ts ws ns fs :=
 ⟨h.ot, h.wn, fun i v u h1 h2 => (h.op i v u h1 h2).far (fun k g e1 e2 e3 => hs k g e1 e2 (by omega)), fun i v u h1 h2 => (h.wp i v u h1 h2).far (fun k g e1 e2 e3 => hs k g e1 e2 (by omega)),
  fun v hv => (h.we v hv).far (fun k g e1 e2 e3 _ => hs k g e1 e2 (by omega)), fun v hv => (h.fe v hv).far (fun k g e1 e2 e3 _ => hs k g e1 e2 (by omega)), h.wd, h.fd, h.rm⟩
theorem Ki.room {R2 : Nat} (h : Ki s q R os ts ws ns fs) (hR : R ≤ R2) : Ki s q R2 os ts ws ns fs := ⟨h.ot, h.wn, h.op, h.wp, h.we, h.fe, h.wd, h.fd, Nat.le_trans h.rm hR⟩
theorem get_snoc {l : List Value} {x y : Value} {i : Nat} (h : (l ++ [x])[i]? = some y) : l[i]? = some y ∨ (i = l.length ∧ y = x) := by
 rw [List.getElem?_append] at h
 split at h
 ·exact .inl h
 ·rename_i hi
  have : i - l.length = 0 := by
   have := (List.getElem?_eq_some_iff.1 h).1
   simp at this; omega
  rw [this] at h
  exact .inr ⟨by omega, by simpa using h.symm⟩
/-- A list is noted. -/
theorem Ki.keep (h : Ki s q R os ts ws ns fs) (hv : Ex s q 1 v) (hp : Pr s q (· = 1) (2 ≤ ·) v u) (hd : ∀ x ∈ ws, Ne2 x v) : Ki s q (R + 2) os ts (ws ++ [v]) (ns ++ [u]) fs := by
 refine ⟨h.ot, by simp [h.wn], h.op, fun i x y h1 h2 => ?_, fun x hx => ?_, h.fe, ?_, h.fd, by have := h.rm; simp; omega⟩
 ·rcases get_snoc h1 with e | ⟨e, rfl⟩ <;> rcases get_snoc h2 with f | ⟨f, rfl⟩
  ·exact h.wp i x y e f
  ·have := (List.getElem?_eq_some_iff.1 e).1; have := h.wn; omega
  ·have := (List.getElem?_eq_some_iff.1 f).1; have := h.wn; omega
  ·exact hp
 ·rcases List.mem_append.1 hx with hx | hx
  ·exact h.we x hx
  ·rw [List.mem_singleton.1 hx]; exact hv
 ·refine List.pairwise_append.2 ⟨h.wd, List.pairwise_singleton _ _, fun x hx y hy => ?_⟩
  rw [List.mem_singleton.1 hy]; exact hd x hx
theorem get_mid {l1 l2 : List Value} {x y : Value} {i : Nat} (h : (l1 ++ l2)[i]? = some y) : ∃ j, (l1 ++ x :: l2)[j]? = some y ∧ (j = i ∧ i < l1.length ∨ j = i + 1 ∧ l1.length ≤ i) := by
 rw [List.getElem?_append] at h
 split at h
 ·rename_i hi; exact ⟨i, by rw [List.getElem?_append, if_pos hi]; exact h, .inl ⟨rfl, hi⟩⟩
 ·rename_i hi
  refine ⟨i + 1, ?_, .inr ⟨rfl, by omega⟩⟩
  rw [List.getElem?_append, if_neg (by omega), show i + 1 - l1.length = (i - l1.length) + 1 by omega, List.getElem?_cons_succ]
  exact h
/-- A list that waited is written over: its block alone changes. -/
theorem Ki.mark {w1 w2 n1 n2 : List Value} (h : Ki s q R os ts (w1 ++ v :: w2) (n1 ++ u :: n2) fs) (hl : n1.length = w1.length)
  (hs : ∀ k g, s k = some g → g.kd = q → 1 ≤ g.role → v.ownBlock ≠ some k → s' k = some g) (hv : Ex s' q 2 v) (hp : Pr s' q (2 ≤ ·) (2 ≤ ·) v t) : Ki s' q R (os ++ [v]) (ts ++ [t]) (w1 ++ w2) (n1 ++ n2) (fs ++ [v]) := by
 have hE := h.we v (by simp)
 have hrole : ∀ k g, s k = some g → v.ownBlock = some k → g.role = 1 := by
  intro k g hk hb
  rcases hE with e | ⟨k', g', e, h1, -, h3⟩
  ·rw [e] at hb; cases hb
  ·rw [e] at hb; cases hb; rw [h1] at hk; cases hk; exact h3
 have hwd := h.wd
 rw [List.pairwise_append, List.pairwise_cons] at hwd
 obtain ⟨hd1, ⟨hd2, hd3⟩, hd4⟩ := hwd
 have hmem : ∀ x, x ∈ w1 ++ w2 → Ne2 x v := by
  intro x hx
  rcases List.mem_append.1 hx with hx | hx
  ·exact hd4 x hx v (by simp)
  ·exact (hd2 x hx).symm
 refine ⟨by simp [h.ot], by have := h.wn; simp at this ⊢; omega, fun i x y h1 h2 => ?_, fun i x y h1 h2 => ?_, fun x hx => ?_, fun x hx => ?_, ?_, ?_, by have := h.rm; simp at this ⊢; omega⟩
 ·rcases get_snoc h1 with e | ⟨e, rfl⟩ <;> rcases get_snoc h2 with f | ⟨f, rfl⟩
  ·refine (h.op i x y e f).far (fun k g e1 e2 e3 => hs k g e1 e2 (by omega) (fun hb => by have := hrole k g e1 hb; omega))
  ·have := (List.getElem?_eq_some_iff.1 e).1; have := h.ot; omega
  ·have := (List.getElem?_eq_some_iff.1 f).1; have := h.ot; omega
  ·exact hp
 ·obtain ⟨j, e, hj⟩ := get_mid (x := v) h1
  obtain ⟨j2, f, hj2⟩ := get_mid (x := u) h2
  have : j2 = j := by omega
  subst this
  have hx : x ∈ w1 ++ w2 := List.mem_of_getElem? h1
  refine (h.wp j2 x y e f).far (fun k g e1 e2 e4 => hs k g e1 e2 (by omega) (fun hb => ?_))
  have hr := hrole k g e1 hb
  rcases e4 with ⟨e4, -⟩ | ⟨-, e4⟩
  ·exact hmem x hx k e4 hb
  ·omega
 ·exact (h.we x (by
   rcases List.mem_append.1 hx with hx | hx
   ·exact List.mem_append_left _ hx
   ·exact List.mem_append_right _ (List.mem_cons_of_mem _ hx))).far (fun k g e1 e2 e3 e4 => hs k g e1 e2 (by omega) (fun hb => hmem x hx k e4 hb))
 ·rcases List.mem_append.1 hx with hx | hx
  ·exact (h.fe x hx).far (fun k g e1 e2 e3 _ => hs k g e1 e2 (by omega) (fun hb => by have := hrole k g e1 hb; omega))
  ·rw [List.mem_singleton.1 hx]; exact hv
 ·rw [List.pairwise_append]
  exact ⟨hd1, hd3, fun x hx y hy => hd4 x hx y (by simp [hy])⟩
 ·refine List.pairwise_append.2 ⟨h.fd, List.pairwise_singleton _ _, fun x hx y hy => ?_⟩
  rw [List.mem_singleton.1 hy]
  intro k hk hb
  rcases h.fe x hx with e | ⟨k', g', e, h1, -, h3⟩
  ·rw [e] at hk; cases hk
  ·rw [e] at hk; obtain rfl : k' = k := by simpa [Value.ownBlock] using hk
   have := hrole k' g' h1 hb; omega
/-- A list that was written over is laid on. -/
theorem Ki.grow (h : Ki s q R os ts ws ns (v :: fs)) (hs : ∀ k g, s k = some g → g.kd = q → 1 ≤ g.role → v.ownBlock ≠ some k → s' k = some g)
  (hv : ∀ k g, v.ownBlock = some k → s k = some g → ∃ g', s' k = some g' ∧ g'.kd = g.kd ∧ 2 ≤ g'.role ∧ g.n ≤ g'.n ∧ g'.L.take (g.n * esz q) = g.L.take (g.n * esz q)) (hp : Pr s' q (2 ≤ ·) (2 ≤ ·) u t) : Ki s' q R (os ++ [u]) (ts ++ [t]) ws ns fs := by
 have hE := h.fe v (by simp)
 have hrole : ∀ k g, s k = some g → v.ownBlock = some k → g.role = 2 := by
  intro k g hk hb
  rcases hE with e | ⟨k', g', e, h1, -, h3⟩
  ·rw [e] at hb; cases hb
  ·rw [e] at hb; cases hb; rw [h1] at hk; cases hk; exact h3
 have hfd := h.fd
 rw [List.pairwise_cons] at hfd
 obtain ⟨hd1, hd2⟩ := hfd
 refine ⟨by simp [h.ot], h.wn, fun i x y h1 h2 => ?_, fun i x y h1 h2 => (h.wp i x y h1 h2).move (fun k g e1 e2 e3 => ?_), fun x hx => (h.we x hx).far (fun k g e1 e2 e3 _ => hs k g e1 e2 (by omega) (fun hb => by have := hrole k g e1 hb; omega)),
  fun x hx => (h.fe x (List.mem_cons_of_mem _ hx)).far (fun k g e1 e2 e3 e4 => hs k g e1 e2 (by omega) (fun hb => hd1 x hx k hb e4)), h.wd, hd2, by have := h.rm; simp at this ⊢; omega⟩
 ·rcases get_snoc h1 with e | ⟨e, rfl⟩ <;> rcases get_snoc h2 with f | ⟨f, rfl⟩
  ·refine (h.op i x y e f).move (fun k g e1 e2 e3 => ?_)
   by_cases hb : v.ownBlock = some k
   ·obtain ⟨g', i1, i2, i3, i4, i5⟩ := hv k g hb e1
    exact ⟨g', i1, i2.trans e2, fun _ => i3, fun _ => i3, i4, i5⟩
   ·exact ⟨g, hs k g e1 e2 (by omega) hb, e2, id, id, Nat.le_refl _, rfl⟩
  ·have := (List.getElem?_eq_some_iff.1 e).1; have := h.ot; omega
  ·have := (List.getElem?_eq_some_iff.1 f).1; have := h.ot; omega
  ·exact hp
 ·by_cases hb : v.ownBlock = some k
  ·obtain ⟨g', i1, i2, i3, i4, i5⟩ := hv k g hb e1
   have := hrole k g e1 hb
   exact ⟨g', i1, i2.trans e2, fun h => by omega, fun _ => i3, i4, i5⟩
  ·exact ⟨g, hs k g e1 e2 (by omega) hb, e2, id, id, Nat.le_refl _, rfl⟩
/-- What is outside of a kind's cells. -/
def Rest (q : Nat) (V V' : Nat → Value) (X X' : Nat → List Value) : Prop := ∀ j, j < 121 → ¬ (4 + 9 * q ≤ j ∧ j < 13 + 9 * q) → V' j = V j ∧ X' j = X j
theorem Rest.refl (q : Nat) (V : Nat → Value) (X : Nat → List Value) : Rest q V V X X := fun _ _ _ => ⟨rfl, rfl⟩
theorem Rest.put {V V' : Nat → Value} {X X' : Nat → List Value} (h : Rest q V V' X X') {j : Nat} (hj : 4 + 9 * q ≤ j ∧ j < 13 + 9 * q ∨ 121 ≤ j) (v : Value) (xs : List Value) : Rest q V (upd V' j v) X (upd X' j xs) := fun i hi hn => by
 have : i ≠ j := by omega
 rw [upd_ne _ _ this, upd_ne _ _ this]
 exact h i hi hn
theorem Rest.scal {V V' : Nat → Value} {X X' : Nat → List Value} (h : Rest q V V' X X') {j : Nat} (hj : 4 + 9 * q ≤ j ∧ j < 13 + 9 * q ∨ 121 ≤ j) (v : Value) : Rest q V (upd V' j v) X X' := fun i hi hn => by
 have : i ≠ j := by omega
 rw [upd_ne _ _ this]
 exact h i hi hn
end
end Go.Proofs.YtihjjkoddphmiaaGreatDoor.bk
namespace Go.Proofs.YtihjjkoddphmiaaGreatDoor.bk
open Go.RowKit Go.Proofs.YtihjjkoddphmiaaGreatDoorW.PrintWords Go.Proofs.YtihjjkoddphmiaaGreatDoorW.PrintLast Go.Proofs.YtihjjkoddphmiaaGreatDoorW.PrintMore Go.Proofs.YtihjjkoddphmiaaGreatDoor.PImageApart
set_option linter.unusedVariables false
set_option linter.unusedSimpArgs false

/-- The same whole numbers. -/
def Q1 (k : IntKind) (w : World) (v u : Value) : Prop := ∃ A B n c d, v = .slice A n c ∧ u = .slice B n d ∧ n ≤ 1099511627776 ∧ ∀ i, i < n → ∃ a b x, A = some ⟨a, 0, none⟩ ∧ B = some ⟨b, 0, none⟩ ∧ w.cell? ⟨a, i, none⟩ = some (.int k x) ∧ w.cell? ⟨b, i, none⟩ = some (.int k x)
/-- The same slices, each of which holds what P asks. -/
def Q9 (P : World → Value → Value → Prop) (w : World) (v u : Value) : Prop := ∃ A B n c d, v = .slice A n c ∧ u = .slice B n d ∧ n ≤ 1099511627776 ∧ ∀ i, i < n → ∃ a b x, A = some ⟨a, 0, none⟩ ∧ B = some ⟨b, 0, none⟩ ∧ w.cell? ⟨a, i, none⟩ = some x ∧ w.cell? ⟨b, i, none⟩ = some x ∧ P w x x

set_option maxHeartbeats 8000000 in
set_option maxRecDepth 100000 in
theorem same_bytes (v u : Value) (w : World) (h : Q1 .u8 w v u) : Calls Tryz.prog 77 #[v, u] w fun e w' => e = .returned (.bool true) ∧ w' = w := by
 obtain ⟨A, B, n, c, d, rfl, rfl, hn, hc⟩ := h
 have HC := Aside0.mk hc
 clear hc
 go_enter Tryz.func77, Tryz.ntmps77
 go_wp2
 go_loopw [5] (fun i wr => ∃ k : Nat, k ≤ n ∧ i = .int .i64 k ∧ wr = w) (fun i _ => n - (intOf i).toNat)
 case atStart => exact ⟨0, Nat.zero_le _, rfl, rfl⟩
 case round =>
  obtain ⟨k, hk, rfl, rfl⟩ := hrel
  by_cases hlt : k < n
  ·obtain ⟨a, b, x, rfl, rfl, h1, h2⟩ := HC.out k hlt
   have h1' : wr.cell? ((⟨a, 0, none⟩ : Addr).add k) = some (.int .u8 x) := by rw [show (⟨a, 0, none⟩ : Addr).add k = ⟨a, k, none⟩ by simp [Addr.add]; exact fun e => e.symm]; exact h1
   have h2' : wr.cell? ((⟨b, 0, none⟩ : Addr).add k) = some (.int .u8 x) := by rw [show (⟨b, 0, none⟩ : Addr).add k = ⟨b, k, none⟩ by simp [Addr.add]; exact fun e => e.symm]; exact h2
   go_wp2_with (fail)
   go_roundw
   case rel => exact ⟨k + 1, by omega, by go_num, trivial⟩
   case measure => simp [intOf]; omega
  ·go_wp2_with (fail)
   go_ret
   exact ⟨rfl, rfl⟩

set_option maxHeartbeats 8000000 in
set_option maxRecDepth 100000 in
theorem same_ints (v u : Value) (w : World) (h : Q1 .i64 w v u) : Calls Tryz.prog 78 #[v, u] w fun e w' => e = .returned (.bool true) ∧ w' = w := by
 obtain ⟨A, B, n, c, d, rfl, rfl, hn, hc⟩ := h
 have HC := Aside0.mk hc
 clear hc
 go_enter Tryz.func78, Tryz.ntmps78
 go_wp2
 go_loopw [5] (fun i wr => ∃ k : Nat, k ≤ n ∧ i = .int .i64 k ∧ wr = w) (fun i _ => n - (intOf i).toNat)
 case atStart => exact ⟨0, Nat.zero_le _, rfl, rfl⟩
 case round =>
  obtain ⟨k, hk, rfl, rfl⟩ := hrel
  by_cases hlt : k < n
  ·obtain ⟨a, b, x, rfl, rfl, h1, h2⟩ := HC.out k hlt
   have h1' : wr.cell? ((⟨a, 0, none⟩ : Addr).add k) = some (.int .i64 x) := by rw [show (⟨a, 0, none⟩ : Addr).add k = ⟨a, k, none⟩ by simp [Addr.add]; exact fun e => e.symm]; exact h1
   have h2' : wr.cell? ((⟨b, 0, none⟩ : Addr).add k) = some (.int .i64 x) := by rw [show (⟨b, 0, none⟩ : Addr).add k = ⟨b, k, none⟩ by simp [Addr.add]; exact fun e => e.symm]; exact h2
   go_wp2_with (fail)
   go_roundw
   case rel => exact ⟨k + 1, by omega, by go_num, trivial⟩
   case measure => simp [intOf]; omega
  ·go_wp2_with (fail)
   go_ret
   exact ⟨rfl, rfl⟩

set_option maxHeartbeats 8000000 in
set_option maxRecDepth 100000 in
theorem same_words (v u : Value) (w : World) (h : Q1 .u64 w v u) : Calls Tryz.prog 80 #[v, u] w fun e w' => e = .returned (.bool true) ∧ w' = w := by
 obtain ⟨A, B, n, c, d, rfl, rfl, hn, hc⟩ := h
 have HC := Aside0.mk hc
 clear hc
 go_enter Tryz.func80, Tryz.ntmps80
 go_wp2
 go_loopw [5] (fun i wr => ∃ k : Nat, k ≤ n ∧ i = .int .i64 k ∧ wr = w) (fun i _ => n - (intOf i).toNat)
 case atStart => exact ⟨0, Nat.zero_le _, rfl, rfl⟩
 case round =>
  obtain ⟨k, hk, rfl, rfl⟩ := hrel
  by_cases hlt : k < n
  ·obtain ⟨a, b, x, rfl, rfl, h1, h2⟩ := HC.out k hlt
   have h1' : wr.cell? ((⟨a, 0, none⟩ : Addr).add k) = some (.int .u64 x) := by rw [show (⟨a, 0, none⟩ : Addr).add k = ⟨a, k, none⟩ by simp [Addr.add]; exact fun e => e.symm]; exact h1
   have h2' : wr.cell? ((⟨b, 0, none⟩ : Addr).add k) = some (.int .u64 x) := by rw [show (⟨b, 0, none⟩ : Addr).add k = ⟨b, k, none⟩ by simp [Addr.add]; exact fun e => e.symm]; exact h2
   go_wp2_with (fail)
   go_roundw
   case rel => exact ⟨k + 1, by omega, by go_num, trivial⟩
   case measure => simp [intOf]; omega
  ·go_wp2_with (fail)
   go_ret
   exact ⟨rfl, rfl⟩

set_option maxHeartbeats 8000000 in
set_option maxRecDepth 100000 in
theorem same_intLists (v u : Value) (w : World) (h : Q9 (Q1 .i64) w v u) : Calls Tryz.prog 86 #[v, u] w fun e w' => e = .returned (.bool true) ∧ w' = w := by
 obtain ⟨A, B, n, c, d, rfl, rfl, hn, hc⟩ := h
 have HC := Aside0.mk hc
 clear hc
 go_enter Tryz.func86, Tryz.ntmps86
 go_wp2
 go_loopw [5] (fun i wr => ∃ k : Nat, k ≤ n ∧ i = .int .i64 k ∧ wr = w) (fun i _ => n - (intOf i).toNat)
 case atStart => exact ⟨0, Nat.zero_le _, rfl, rfl⟩
 case round =>
  obtain ⟨k, hk, rfl, rfl⟩ := hrel
  by_cases hlt : k < n
  ·obtain ⟨a, b, x, rfl, rfl, h1, h2, h3⟩ := HC.out k hlt
   have h1' : wr.cell? ((⟨a, 0, none⟩ : Addr).add k) = some x := by rw [show (⟨a, 0, none⟩ : Addr).add k = ⟨a, k, none⟩ by simp [Addr.add]; exact fun e => e.symm]; exact h1
   have h2' : wr.cell? ((⟨b, 0, none⟩ : Addr).add k) = some x := by rw [show (⟨b, 0, none⟩ : Addr).add k = ⟨b, k, none⟩ by simp [Addr.add]; exact fun e => e.symm]; exact h2
   have HS := Aside0.mk (same_ints x x wr h3)
   clear h3
   go_wp2_with (fail)
   refine HS.out.mono ?_
   rintro en w2 ⟨rfl, rfl⟩
   go_wp2_with (fail)
   go_roundw
   case rel => exact ⟨k + 1, by omega, by go_num, trivial⟩
   case measure => simp [intOf]; omega
  ·go_wp2_with (fail)
   go_ret
   exact ⟨rfl, rfl⟩

set_option maxHeartbeats 8000000 in
set_option maxRecDepth 100000 in
theorem same_frames (v u : Value) (w : World) (h : Q9 (Q9 (Q1 .i64)) w v u) : Calls Tryz.prog 88 #[v, u] w fun e w' => e = .returned (.bool true) ∧ w' = w := by
 obtain ⟨A, B, n, c, d, rfl, rfl, hn, hc⟩ := h
 have HC := Aside0.mk hc
 clear hc
 go_enter Tryz.func88, Tryz.ntmps88
 go_wp2
 go_loopw [5] (fun i wr => ∃ k : Nat, k ≤ n ∧ i = .int .i64 k ∧ wr = w) (fun i _ => n - (intOf i).toNat)
 case atStart => exact ⟨0, Nat.zero_le _, rfl, rfl⟩
 case round =>
  obtain ⟨k, hk, rfl, rfl⟩ := hrel
  by_cases hlt : k < n
  ·obtain ⟨a, b, x, rfl, rfl, h1, h2, h3⟩ := HC.out k hlt
   have h1' : wr.cell? ((⟨a, 0, none⟩ : Addr).add k) = some x := by rw [show (⟨a, 0, none⟩ : Addr).add k = ⟨a, k, none⟩ by simp [Addr.add]; exact fun e => e.symm]; exact h1
   have h2' : wr.cell? ((⟨b, 0, none⟩ : Addr).add k) = some x := by rw [show (⟨b, 0, none⟩ : Addr).add k = ⟨b, k, none⟩ by simp [Addr.add]; exact fun e => e.symm]; exact h2
   have HS := Aside0.mk (same_intLists x x wr h3)
   clear h3
   go_wp2_with (fail)
   refine HS.out.mono ?_
   rintro en w2 ⟨rfl, rfl⟩
   go_wp2_with (fail)
   go_roundw
   case rel => exact ⟨k + 1, by omega, by go_num, trivial⟩
   case measure => simp [intOf]; omega
  ·go_wp2_with (fail)
   go_ret
   exact ⟨rfl, rfl⟩

/-- The same objects. -/
def Q12 (w : World) (v u : Value) : Prop := ∃ A B n c d, v = .slice A n c ∧ u = .slice B n d ∧ n ≤ 1099511627776 ∧ ∀ i, i < n → ∃ a b x y z p r, A = some ⟨a, 0, none⟩ ∧ B = some ⟨b, 0, none⟩ ∧
 (w.cell? ⟨a, i * 5, none⟩ = some (.int .u64 x) ∧ w.cell? ⟨a, i * 5 + 1, none⟩ = some (.int .i64 y) ∧ w.cell? ⟨a, i * 5 + 2, none⟩ = some (.int .i64 z) ∧ w.cell? ⟨a, i * 5 + 3, none⟩ = some p ∧ w.cell? ⟨a, i * 5 + 4, none⟩ = some r) ∧
 (w.cell? ⟨b, i * 5, none⟩ = some (.int .u64 x) ∧ w.cell? ⟨b, i * 5 + 1, none⟩ = some (.int .i64 y) ∧ w.cell? ⟨b, i * 5 + 2, none⟩ = some (.int .i64 z) ∧ w.cell? ⟨b, i * 5 + 3, none⟩ = some p ∧ w.cell? ⟨b, i * 5 + 4, none⟩ = some r) ∧ Q1 .i64 w p p ∧ Q1 .u64 w r r
theorem Q1.grown {k : IntKind} {w w1 : World} {v u : Value} (h : Q1 k w v u) (hg : w.grownBy w1 none) : Q1 k w1 v u := by
 obtain ⟨A, B, n, c, d, rfl, rfl, hn, hc⟩ := h
 refine ⟨A, B, n, c, d, rfl, rfl, hn, fun i hi => ?_⟩
 obtain ⟨a, b, x, e1, e2, e3, e4⟩ := hc i hi
 exact ⟨a, b, x, e1, e2, hg.cell e3 (by simp), hg.cell e4 (by simp)⟩
theorem add_eq (a n : Nat) : (⟨a, 0, none⟩ : Addr).add n = ⟨a, n, none⟩ := by simp [Addr.add]; exact fun e => e.symm

set_option maxHeartbeats 8000000 in
set_option maxRecDepth 100000 in
theorem same_objects (v u : Value) (w : World) (h : Q12 w v u) : Calls Tryz.prog 89 #[v, u] w fun e w' => e = .returned (.bool true) ∧ w.grownBy w' none := by
 obtain ⟨A, B, n, c, d, rfl, rfl, hn, hc⟩ := h
 have HC := Aside0.mk hc
 have HG := Aside0.mk (grown_refl w none)
 clear hc
 go_enter Tryz.func89, Tryz.ntmps89
 go_wp2
 go_loopw [5] (fun i wr => ∃ k : Nat, k ≤ n ∧ i = .int .i64 k ∧ Aside0 (w.grownBy wr none)) (fun i _ => n - (intOf i).toNat)
 case atStart => exact ⟨0, Nat.zero_le _, rfl, HG⟩
 case round =>
  clear HG
  obtain ⟨k, hk, rfl, HG⟩ := hrel
  by_cases hlt : k < n
  ·obtain ⟨a, b, x, y, z, p, r, rfl, rfl, ⟨p0, p1, p2, p3, p4⟩, ⟨q0, q1, q2, q3, q4⟩, C5, C6⟩ := HC.out k hlt
   replace p0 := HG.out.cell p0 (by simp)
   replace p1 := HG.out.cell p1 (by simp)
   replace p2 := HG.out.cell p2 (by simp)
   replace p3 := HG.out.cell p3 (by simp)
   replace p4 := HG.out.cell p4 (by simp)
   replace q0 := HG.out.cell q0 (by simp)
   replace q1 := HG.out.cell q1 (by simp)
   replace q2 := HG.out.cell q2 (by simp)
   replace q3 := HG.out.cell q3 (by simp)
   replace q4 := HG.out.cell q4 (by simp)
   have HC5 := Aside0.mk (C5.grown HG.out)
   have HC6 := Aside0.mk (C6.grown HG.out)
   obtain ⟨A5, -, n5, c5, -, rfl, -⟩ := C5
   obtain ⟨A6, -, n6, c6, -, rfl, -⟩ := C6
   have ha : (⟨a, 0, none⟩ : Addr).add (k * 5) = ⟨a, k * 5, none⟩ := add_eq a _
   have hb : (⟨b, 0, none⟩ : Addr).add (k * 5) = ⟨b, k * 5, none⟩ := add_eq b _
   obtain ⟨X1, hX1⟩ : ∃ X1, X1 = wr.alloc (.cells #[.int .u64 x, .int .i64 y, .int .i64 z, .slice A5 n5 c5, .slice A6 n6 c6] 66) := ⟨_, rfl⟩
   have hG1 : wr.grownBy X1 none := by rw [hX1]; exact grown_alloc _ _
   have HX1 := Aside0.mk hX1
   have HK1 : Aside0 (X1.heap[wr.heap.size]? = some (.cells #[.int .u64 x, .int .i64 y, .int .i64 z, .slice A5 n5 c5, .slice A6 n6 c6] 66 (0, 0))) := ⟨by rw [hX1]; exact heap_alloc_new _ _⟩
   clear hX1
   replace q0 := hG1.cell q0 (by simp)
   replace q1 := hG1.cell q1 (by simp)
   replace q2 := hG1.cell q2 (by simp)
   replace q3 := hG1.cell q3 (by simp)
   replace q4 := hG1.cell q4 (by simp)
   obtain ⟨X2, hX2⟩ : ∃ X2, X2 = X1.alloc (.cells #[.int .u64 x, .int .i64 y, .int .i64 z, .slice A5 n5 c5, .slice A6 n6 c6] 66) := ⟨_, rfl⟩
   have hG2 : X1.grownBy X2 none := by rw [hX2]; exact grown_alloc _ _
   have HX2 := Aside0.mk hX2
   have HK2 : Aside0 (X2.heap[X1.heap.size]? = some (.cells #[.int .u64 x, .int .i64 y, .int .i64 z, .slice A5 n5 c5, .slice A6 n6 c6] 66 (0, 0))) := ⟨by rw [hX2]; exact heap_alloc_new _ _⟩
   clear hX2
   have HK3 := Aside0.mk (blk_grown HK1.out hG2 (by simp))
   have u0 := (blk_cell HK3.out 0).trans rfl
   have u1 := (blk_cell HK3.out 1).trans rfl
   have u2 := (blk_cell HK3.out 2).trans rfl
   have u3 := (blk_cell HK3.out 3).trans rfl
   have u4 := (blk_cell HK3.out 4).trans rfl
   have v0 := (blk_cell HK2.out 0).trans rfl
   have v1 := (blk_cell HK2.out 1).trans rfl
   have v2 := (blk_cell HK2.out 2).trans rfl
   have v3 := (blk_cell HK2.out 3).trans rfl
   have v4 := (blk_cell HK2.out 4).trans rfl
   have HS1 := Aside0.mk (same_ints _ _ X2 ((HC5.out.grown hG1).grown hG2))
   have HS2 := Aside0.mk (same_words _ _ X2 ((HC6.out.grown hG1).grown hG2))
   have HG2 := Aside0.mk ((HG.out.trans hG1).trans hG2)
   clear HC5 HC6 HK1 HK2 HK3 hG1 hG2 HG
   go_upto_region 7 with (fail)
   rw [← HX1.out]
   clear p0 p1 p2 p3 p4
   go_upto_region 8 with (fail)
   rw [← HX2.out]
   clear q0 q1 q2 q3 q4
   go_wp2_with (first | (go_at_call 78; refine HS1.out.mono ?_; rintro en w3 ⟨rfl, rfl⟩) | (go_at_call 80; refine HS2.out.mono ?_; rintro en w3 ⟨rfl, rfl⟩))
   go_roundw
   case rel => exact ⟨k + 1, by omega, by go_num, HG2⟩
   case measure => simp [intOf]; omega
  ·go_wp2_with (fail)
   go_ret
   exact ⟨rfl, HG.out⟩
end Go.Proofs.YtihjjkoddphmiaaGreatDoor.bk
