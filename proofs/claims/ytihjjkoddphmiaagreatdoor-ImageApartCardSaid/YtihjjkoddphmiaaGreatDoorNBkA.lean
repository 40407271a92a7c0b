/-
  The Book of middenkept: its heap shape. A ghost tells each kept block's kind, part and cells.
-/
import Derived.Test.YtihjjkoddphmiaaGreatDoorNPImageApartx0
import Derived.Test.YtihjjkoddphmiaaGreatDoorNWKept
namespace Go.Proofs.YtihjjkoddphmiaaGreatDoor.bk
open Go.RowKit Go.Proofs.YtihjjkoddphmiaaGreatDoorW.PrintWords
set_option linter.unusedVariables false
set_option linter.unusedSimpArgs false

/-- A kept block: its kind, its part (0 given, 1 waits, 2 fresh, 3 fixed), how many elements, how many fit, the cells. -/
structure Bl where
 kd : Nat
 role : Nat
 n : Nat
 cap : Nat
 L : List Value
def esz (k : Nat) : Nat := if k = 12 then 5 else 1
def ety (k : Nat) : Nat := if k = 0 then 5 else if k = 1 then 3 else if k = 3 then 42 else if k = 9 then 25 else if k = 11 then 26 else 66
def sty (k : Nat) : Nat := if k = 0 then 40 else if k = 1 then 25 else if k = 3 then 64 else if k = 9 then 26 else if k = 11 then 34 else 41
/-- The element type of the row in a cell of the Book (200 on: what a local variable holds of it); 0: no row. -/
def rty (j : Nat) : Nat := if j % 200 < 4 then 0 else if (j % 200 - 4) % 9 < 5 then sty ((j % 200 - 4) / 9) else if (j % 200 - 4) % 9 < 8 then 3 else 0
def upd {β : Type} (f : Nat → β) (j : Nat) (y : β) : Nat → β := fun i => if i = j then y else f i
theorem upd_same {β : Type} (f : Nat → β) (j : Nat) (y : β) : upd f j y j = y := by simp [upd]
theorem upd_ne {β : Type} (f : Nat → β) {i j : Nat} (y : β) (h : i ≠ j) : upd f j y i = f i := by simp [upd, h]

/-- What a call of the Book keeps: all but its own blocks. -/
structure Fr (m : Nat → Prop) (w w' : World) : Prop where
 os : w'.os = w.os
 tape : w'.tape = w.tape
 output : w'.output = w.output
 kept : Kept w w' m
theorem Fr.refl (m : Nat → Prop) (w : World) : Fr m w w := ⟨rfl, rfl, rfl, Kept.refl _ _⟩
theorem Fr.then_ {m : Nat → Prop} {w w1 w2 : World} (h : Fr m w w1) (k : Fr m w1 w2) : Fr m w w2 := ⟨k.os.trans h.os, k.tape.trans h.tape, k.output.trans h.output, h.kept.then_ k.kept (fun _ h => .inl h)⟩
theorem Fr.grown {m : Nat → Prop} {w w1 : World} {r : Option Nat} (h : w.grownBy w1 r) (hr : ∀ k, r = some k → m k ∨ w.heap.size ≤ k) : Fr m w w1 := ⟨h.os, h.tape, h.output, Kept.of_grown h (Kept.refl _ _) hr⟩
theorem Fr.set {m : Nat → Prop} {w : World} {g j : Nat} (h : m g) (v : Value) : Fr m w (w.setCell ⟨g, j, none⟩ v) := ⟨rfl, rfl, rfl, (Kept.refl w m).setCell (.inl h) v⟩

/-- The Book lies in block bk: V its cells' values (200 on: values that locals hold), X the rows' cells; s: the kept blocks. All of them are m's. -/
structure Sh (m : Nat → Prop) (w : World) (bk : Nat) (s : Nat → Option Bl) (V : Nat → Value) (X : Nat → List Value) : Prop where
 blk : ∃ C : Array Value, w.heap[bk]? = some (.cells C 39 (0, 0)) ∧ C.size = 121 ∧ ∀ j, j < 121 → C[j]? = some (V j)
 row : ∀ j, rty j ≠ 0 → w.ownsRow 0 (rty j) 1 (V j) (X j).length (X j)
 lt : ∀ j k, (V j).ownBlock = some k → k < w.heap.size
 dis : ∀ i j k, (V i).ownBlock = some k → (V j).ownBlock = some k → i = j
 off : ∀ j k, (V j).ownBlock = some k → s k = none ∧ k ≠ bk
 fit : ∀ k g, s k = some g → k ≠ bk ∧ w.ownsRow 0 (ety g.kd) (esz g.kd) (.slice (some ⟨k, 0, none⟩) g.n g.cap) g.n g.L
 mb : m bk
 mv : ∀ j k, (V j).ownBlock = some k → m k
 ms : ∀ k g, s k = some g → m k
 up : ∀ k, w.heap.size ≤ k → m k
section
variable {m : Nat → Prop} {w w1 : World} {bk j k : Nat} {s : Nat → Option Bl} {V : Nat → Value} {X : Nat → List Value} {g : Bl} {v v1 x : Value}
theorem ownsRow_lt {b e z n : Nat} {xs : List Value} {c : Nat} (h : w.ownsRow b e z (.slice (some ⟨k, 0, none⟩) n c) n xs) : k < w.heap.size := (h.lt k rfl).2
theorem Sh.slt (h : Sh m w bk s V X) (hk : s k = some g) : k < w.heap.size := ownsRow_lt (h.fit k g hk).2
theorem Sh.blt (h : Sh m w bk s V X) : bk < w.heap.size := by obtain ⟨C, hb, -⟩ := h.blk; exact blk_lt hb
theorem Sh.cell (h : Sh m w bk s V X) (hj : j < 121) : w.cell? ⟨bk, j, none⟩ = some (V j) := by
 obtain ⟨C, hb, -, hc⟩ := h.blk
 exact (blk_cell hb j).trans (hc j hj)
theorem Sh.frozen (h : Sh m w bk s V X) (j : Nat) : w.frozen? ⟨bk, j, none⟩ = false := by
 obtain ⟨C, hb, -, hc⟩ := h.blk
 exact blk_frozen hb j
theorem Sh.slice (h : Sh m w bk s V X) (hj : rty j ≠ 0) : ∃ A c, V j = .slice A (X j).length c := own_slice (h.row j hj)
/-- Where nothing of the Book is written. -/
theorem Sh.still (h : Sh m w bk s V X) (hg : w.grownBy w1 none) : Sh m w1 bk s V X := by
 obtain ⟨C, hb, h1, h2⟩ := h.blk
 exact ⟨⟨C, blk_grown hb hg (by simp), h1, h2⟩, fun j hj => (h.row j hj).kept hg (by cases (V j).ownBlock <;> simp), fun j k hk => Nat.lt_of_lt_of_le (h.lt j k hk) hg.size, h.dis, h.off, fun k g hk => ⟨(h.fit k g hk).1, (h.fit k g hk).2.kept hg (by simp [Value.ownBlock])⟩, h.mb, h.mv, h.ms, fun k hk => h.up k (Nat.le_trans hg.size hk)⟩
theorem grown_alloc (w : World) (o : Obj) : w.grownBy (w.alloc o) none := World.grownBy_alloc w o none
theorem grown_drew (w : World) : w.grownBy w.drew none := ⟨rfl, rfl, rfl, Nat.le_refl _, fun _ _ _ => rfl⟩
theorem grown_refl (w : World) (r : Option Nat) : w.grownBy w r := ⟨rfl, rfl, rfl, Nat.le_refl _, fun _ _ _ => rfl⟩
theorem Sh.frS (h : Sh m w bk s V X) (hg : w.grownBy w1 none) : Fr m w w1 := Fr.grown hg (by simp)
/-- A cell that holds no row. -/
theorem Sh.scal (h : Sh m w bk s V X) (hr : rty j = 0) (hv : v.ownBlock = none) : Sh m (w.setCell ⟨bk, j, none⟩ v) bk s (upd V j v) X := by
 obtain ⟨C, hb, h1, h2⟩ := h.blk
 have hne : ∀ k, (upd V j v k).ownBlock = (V k).ownBlock ∨ (upd V j v k).ownBlock = none := by
  intro k; by_cases hk : k = j
  ·subst hk; exact .inr (by rw [upd_same]; exact hv)
  ·exact .inl (by rw [upd_ne _ _ hk])
 have hs : ∀ i k, (upd V j v i).ownBlock = some k → (V i).ownBlock = some k := by
  intro i k hk; rcases hne i with e | e
  ·rw [← e]; exact hk
  ·rw [e] at hk; cases hk
 have hg : w.grownBy (w.setCell ⟨bk, j, none⟩ v) (some bk) := ⟨rfl, rfl, rfl, by simp [World.setCell], fun i _ hi => Below.heap_setCell w _ _ _ (by simpa using hi)⟩
 refine ⟨⟨C.setIfInBounds j v, blk_set hb j v, by simpa using h1, fun i hi => ?_⟩, fun i hi => ?_, fun i k hk => by simpa [World.setCell] using h.lt i k (hs i k hk), fun a b k ha hb => h.dis a b k (hs a k ha) (hs b k hb), fun i k hk => h.off i k (hs i k hk), fun k g hk => ⟨(h.fit k g hk).1, (h.fit k g hk).2.kept hg (.inr (by simp [Value.ownBlock]; exact (h.fit k g hk).1))⟩, h.mb, fun i k hk => h.mv i k (hs i k hk), h.ms, fun k hk => h.up k (by simpa [World.setCell] using hk)⟩
 ·rw [Array.getElem?_setIfInBounds]
  by_cases e : j = i
  ·subst e; simp [upd_same, h1, hi]
  ·rw [if_neg e, upd_ne _ _ (fun e2 => e e2.symm)]; exact h2 i hi
 ·have : i ≠ j := fun e => hi (e ▸ hr)
  rw [upd_ne _ _ this]
  refine (h.row i hi).kept hg ?_
  cases hk : (V i).ownBlock with
  | none => exact .inl rfl
  | some k => exact .inr (by simpa using (h.off i k hk).2)
/-- A row's cell gets another row: the elder one in its block, or a new one. -/
theorem Sh.put (h : Sh m w bk s V X) {xs : List Value} (hr : rty j ≠ 0) (ho : w1.ownsRow 0 (rty j) 1 v1 xs.length xs) (hg : w.grownBy w1 (V j).ownBlock) (hat : v1.ownBlock = none ∨ v1.ownBlock = (V j).ownBlock ∨ ∃ b, v1.ownBlock = some b ∧ w.heap.size ≤ b) : Sh m (w1.setCell ⟨bk, j, none⟩ v1) bk s (upd V j v1) (upd X j xs) := by
 obtain ⟨C, hb, h1, h2⟩ := h.blk
 have hs : ∀ i k, (upd V j v1 i).ownBlock = some k → (V i).ownBlock = some k ∨ (i = j ∧ w.heap.size ≤ k ∧ k < w1.heap.size) := by
  intro i k hk
  by_cases hi : i = j
  ·subst hi
   rw [upd_same] at hk
   rcases hat with e | e | ⟨b, e, hl⟩
   ·rw [e] at hk; cases hk
   ·exact .inl (e ▸ hk)
   ·rw [e] at hk; obtain rfl : b = k := by simpa using hk
    exact .inr ⟨rfl, hl, (ho.lt b e).2⟩
  ·rw [upd_ne _ _ hi] at hk; exact .inl hk
 have hbn : some bk ≠ (V j).ownBlock := fun e => (h.off j bk e.symm).2 rfl
 have hg2 : w1.grownBy (w1.setCell ⟨bk, j, none⟩ v1) (some bk) := ⟨rfl, rfl, rfl, by simp [World.setCell], fun i _ hi => Below.heap_setCell w1 _ _ _ (by simpa using hi)⟩
 have hbk := h.blt
 refine ⟨⟨C.setIfInBounds j v1, blk_set (blk_grown hb hg hbn) j v1, by simpa using h1, fun i hi => ?_⟩, fun i hi => ?_, fun i k hk => ?_, fun a b k ha hb => ?_, fun i k hk => ?_, fun k g hk => ⟨(h.fit k g hk).1, ?_⟩, h.mb, fun i k hk => ?_, h.ms, fun k hk => h.up k (Nat.le_trans hg.size (by simpa [World.setCell] using hk))⟩
 ·rw [Array.getElem?_setIfInBounds]
  by_cases e : j = i
  ·subst e; simp [upd_same, h1, hi]
  ·rw [if_neg e, upd_ne _ _ (fun e2 => e e2.symm)]; exact h2 i hi
 ·by_cases e : i = j
  ·subst e
   rw [upd_same, upd_same]
   refine ho.kept hg2 ?_
   rcases hat with e | e | ⟨b, e, hl⟩
   ·exact .inl e
   ·exact .inr (by rw [e]; exact fun e2 => hbn e2.symm)
   ·exact .inr (by rw [e]; simp; omega)
  ·rw [upd_ne _ _ e, upd_ne _ _ e]
   have hij : (V i).ownBlock = none ∨ (V i).ownBlock ≠ (V j).ownBlock := by
    cases hk : (V i).ownBlock with
    | none => exact .inl rfl
    | some k => exact .inr (fun e2 => e (h.dis i j k hk e2.symm))
   refine ((h.row i hi).kept hg hij).kept hg2 ?_
   cases hk : (V i).ownBlock with
   | none => exact .inl rfl
   | some k => exact .inr (by simpa using (h.off i k hk).2)
 ·have hl := hg.size
  rcases hs i k hk with e | ⟨-, -, e⟩
  ·have := h.lt i k e; simp [World.setCell]; omega
  ·simpa [World.setCell] using e
 ·rcases hs a k ha with e | ⟨e, e1, -⟩ <;> rcases hs b k hb with f | ⟨f, f1, -⟩
  ·exact h.dis a b k e f
  ·have := h.lt a k e; omega
  ·have := h.lt b k f; omega
  ·rw [e, f]
 ·rcases hs i k hk with e | ⟨-, e, -⟩
  ·exact h.off i k e
  ·refine ⟨?_, by omega⟩
   cases hsk : s k with
   | none => rfl
   | some g => have := h.slt hsk; omega
 ·refine ((h.fit k g hk).2.kept hg (.inr ?_)).kept hg2 (.inr (by simpa [Value.ownBlock] using (h.fit k g hk).1))
  intro e
  have := (h.off j k (by simpa [Value.ownBlock] using e.symm)).1
  rw [hk] at this; cases this
 ·rcases hs i k hk with e | ⟨-, e, -⟩
  ·exact h.mv i k e
  ·exact h.up k e
theorem Sh.frPut (h : Sh m w bk s V X) (hg : w.grownBy w1 (V j).ownBlock) (v1 : Value) : Fr m w (w1.setCell ⟨bk, j, none⟩ v1) :=
 (Fr.grown hg (fun k hk => .inl (h.mv j k hk))).then_ (Fr.set h.mb v1)
/-- A local variable takes a row over (its cell is emptied then). -/
theorem Sh.lend (h : Sh m w bk s V X) (hj : j < 121) (hr : rty j ≠ 0) (hr2 : rty (j + 200) = rty j) : Sh m (w.setCell ⟨bk, j, none⟩ (.slice none 0 0)) bk s (upd (upd V j (.slice none 0 0)) (j + 200) (V j)) (upd (upd X j []) (j + 200) (X j)) := by
 have h0 := h.put (v1 := .slice none 0 0) (xs := []) hr (World.ownsRow_nil w 0 (rty j) 1) (grown_refl w _) (.inl rfl)
 have hrow := (h.row j hr)
 have hs : ∀ i k, (upd (upd V j (.slice none 0 0)) (j + 200) (V j) i).ownBlock = some k → (i = j + 200 ∧ (V j).ownBlock = some k) ∨ (i ≠ j ∧ i ≠ j + 200 ∧ (V i).ownBlock = some k) := by
  intro i k hk
  by_cases e : i = j + 200
  ·subst e; rw [upd_same] at hk; exact .inl ⟨rfl, hk⟩
  ·rw [upd_ne _ _ e] at hk
   by_cases e2 : i = j
   ·subst e2; rw [upd_same] at hk; simp [Value.ownBlock] at hk
   ·rw [upd_ne _ _ e2] at hk; exact .inr ⟨e2, e, hk⟩
 obtain ⟨C, hb, h1, h2⟩ := h0.blk
 have hg2 : w.grownBy (w.setCell ⟨bk, j, none⟩ (.slice none 0 0)) (some bk) := ⟨rfl, rfl, rfl, by simp [World.setCell], fun i _ hi => Below.heap_setCell w _ _ _ (by simpa using hi)⟩
 refine ⟨⟨C, hb, h1, fun i hi => ?_⟩, fun i hi => ?_, fun i k hk => ?_, fun a b k ha hb => ?_, fun i k hk => ?_, h0.fit, h0.mb, fun i k hk => ?_, h0.ms, h0.up⟩
 ·rw [upd_ne _ _ (by omega)]; exact h2 i hi
 ·by_cases e : i = j + 200
  ·subst e
   rw [upd_same, upd_same, hr2]
   refine hrow.kept hg2 ?_
   cases hk : (V j).ownBlock with
   | none => exact .inl rfl
   | some k => exact .inr (by simpa using (h.off j k hk).2)
  ·rw [upd_ne _ _ e, upd_ne _ _ e]; exact h0.row i hi
 ·rcases hs i k hk with ⟨-, e⟩ | ⟨-, -, e⟩ <;> (have := h.lt _ k e; simpa [World.setCell] using this)
 ·rcases hs a k ha with ⟨e, e1⟩ | ⟨e, e1, e2⟩ <;> rcases hs b k hb with ⟨f, f1⟩ | ⟨f, f1, f2⟩
  ·rw [e, f]
  ·exact absurd (h.dis b j k f2 e1) f
  ·exact absurd (h.dis a j k e2 f1) e
  ·exact h.dis a b k e2 f2
 ·rcases hs i k hk with ⟨-, e⟩ | ⟨-, -, e⟩ <;> exact h.off _ k e
 ·rcases hs i k hk with ⟨-, e⟩ | ⟨-, -, e⟩ <;> exact h.mv _ k e
/-- A kept block changes. -/
theorem Sh.change (h : Sh m w bk s V X) {g2 : Bl} (hk : s k = some g) (hg : w.grownBy w1 (some k)) (ho : w1.ownsRow 0 (ety g2.kd) (esz g2.kd) (.slice (some ⟨k, 0, none⟩) g2.n g2.cap) g2.n g2.L) : Sh m w1 bk (upd s k (some g2)) V X := by
 obtain ⟨C, hb, h1, h2⟩ := h.blk
 have hkb := (h.fit k g hk).1
 have hv : ∀ j, (V j).ownBlock ≠ some k := fun j e => by rw [(h.off j k e).1] at hk; cases hk
 refine ⟨⟨C, blk_grown hb hg (by simpa using fun e => hkb e.symm), h1, h2⟩, fun j hj => (h.row j hj).kept hg (.inr (hv j)), fun j i hi => Nat.lt_of_lt_of_le (h.lt j i hi) hg.size, h.dis, fun j i hi => ⟨?_, (h.off j i hi).2⟩, fun i g' hi => ?_, h.mb, h.mv, fun i g' hi => ?_, fun i hi => h.up i (Nat.le_trans hg.size hi)⟩
 ·rw [upd_ne _ _ (fun e => hv j (by rw [e] at hi; exact hi))]; exact (h.off j i hi).1
 ·by_cases e : i = k
  ·subst e; rw [upd_same] at hi; cases hi; exact ⟨hkb, ho⟩
  ·rw [upd_ne _ _ e] at hi
   exact ⟨(h.fit i g' hi).1, (h.fit i g' hi).2.kept hg (.inr (by simpa [Value.ownBlock] using e))⟩
 ·by_cases e : i = k
  ·subst e; exact h.ms i g hk
  ·rw [upd_ne _ _ e] at hi; exact h.ms i g' hi
theorem Sh.frK (h : Sh m w bk s V X) (hk : s k = some g) (hg : w.grownBy w1 (some k)) : Fr m w w1 := Fr.grown hg (fun i e => .inl (by cases e; exact h.ms k g hk))
/-- A new kept block. -/
theorem Sh.new (h : Sh m w bk s V X) (hn : w.heap.size ≤ k) (hg : w.grownBy w1 none) (ho : w1.ownsRow 0 (ety g.kd) (esz g.kd) (.slice (some ⟨k, 0, none⟩) g.n g.cap) g.n g.L) : Sh m w1 bk (upd s k (some g)) V X := by
 have h0 := h.still hg
 have hkb := h.blt
 refine ⟨h0.blk, h0.row, h0.lt, h0.dis, fun j i hi => ⟨?_, (h.off j i hi).2⟩, fun i g' hi => ?_, h.mb, h.mv, fun i g' hi => ?_, h0.up⟩
 ·have := h.lt j i hi
  rw [upd_ne _ _ (by omega)]; exact (h.off j i hi).1
 ·by_cases e : i = k
  ·subst e; rw [upd_same] at hi; cases hi; exact ⟨by omega, ho⟩
  ·rw [upd_ne _ _ e] at hi; exact h0.fit i g' hi
 ·by_cases e : i = k
  ·subst e; exact h.up i hn
  ·rw [upd_ne _ _ e] at hi; exact h.ms i g' hi
theorem Sh.fresh (h : Sh m w bk s V X) (hn : w.heap.size ≤ k) : s k = none := by
 cases hk : s k with
 | none => rfl
 | some g => have := h.slt hk; omega
/-- An element's cell of a kept block. -/
theorem Sh.kcell (h : Sh m w bk s V X) (hk : s k = some g) {i : Nat} (hi : i < g.n * esz g.kd) : ∃ u, g.L[i]? = some u ∧ w.cell? ⟨k, i, none⟩ = some u ∧ w.frozen? ⟨k, i, none⟩ = false := by
 have ho := (h.fit k g hk).2
 have hl : i < g.L.length := by rw [ho.1]; exact hi
 refine ⟨g.L[i], List.getElem?_eq_getElem hl, ?_, ?_⟩
 ·have := ho.cells (g := k) rfl i g.L[i] (List.getElem?_eq_getElem hl)
  rwa [show (⟨k, 0, none⟩ : Addr).add i = ⟨k, i, none⟩ by simp [Addr.add]; exact fun e => e.symm] at this
 ·rcases ho.2 with ⟨e, -⟩ | ⟨b, c, cur, e, -, hb, -⟩
  ·cases e
  ·cases e; exact blk_frozen hb i
/-- A row's cell. -/
theorem Sh.rcell (h : Sh m w bk s V X) (hr : rty j ≠ 0) {i : Nat} {u : Value} (hu : (X j)[i]? = some u) : ∃ b c, V j = .slice (some ⟨b, 0, none⟩) (X j).length c ∧ w.cell? ⟨b, i, none⟩ = some u := by
 have ho := h.row j hr
 have hl : 0 < (X j).length := by
  have := (List.getElem?_eq_some_iff.1 hu).1
  omega
 rcases ho.2 with ⟨-, e⟩ | ⟨b, c, cur, e, -⟩
 ·omega
 ·refine ⟨b, c, e, ?_⟩
  have := ho.cells (g := b) (by rw [e]; rfl) i u hu
  rwa [show (⟨b, 0, none⟩ : Addr).add i = ⟨b, i, none⟩ by simp [Addr.add]; exact fun e => e.symm] at this
/-- A store into a kept block. -/
theorem Sh.write (h : Sh m w bk s V X) (hk : s k = some g) {i : Nat} (u : Value) : Sh m (w.setCell ⟨k, i, none⟩ u) bk (upd s k (some { g with L := g.L.set i u })) V X := by
 have ho := (h.fit k g hk).2
 refine h.change hk ⟨rfl, rfl, rfl, by simp [World.setCell], fun i _ hi => Below.heap_setCell w _ _ _ (by simpa using hi)⟩ ?_
 rcases ho.2 with ⟨e, -⟩ | ⟨b, c, cur, e, hb0, hb, hn, hc, hcs, ht⟩
 ·cases e
 ·cases e
  refine ⟨by simpa using ho.1, .inr ⟨k, g.cap, _, rfl, hb0, blk_set hb i u, hn, hc, by simpa using hcs, ?_⟩⟩
  show (cur.setIfInBounds i u).toList.take (g.n * esz g.kd) = g.L.set i u
  rw [← ht, Array.toList_setIfInBounds, List.take_set]
end
end Go.Proofs.YtihjjkoddphmiaaGreatDoor.bk
