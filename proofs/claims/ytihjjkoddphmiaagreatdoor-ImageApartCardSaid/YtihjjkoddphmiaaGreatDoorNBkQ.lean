/-
  The Book of middenkept: two noted slices read alike.
-/
import Derived.Test.YtihjjkoddphmiaaGreatDoorNBkN
namespace Go.Proofs.YtihjjkoddphmiaaGreatDoor.bk
open Go.RowKit Go.Proofs.YtihjjkoddphmiaaGreatDoorW.PrintWords
set_option linter.unusedVariables false
set_option linter.unusedSimpArgs false

/-- Behind i lists that waited; the four rows that the call took over lie with the locals. -/
structure Mq (m : Nat → Prop) (w : World) (bk q R : Nat) (s : Nat → Option Bl) (V : Nat → Value) (X : Nat → List Value) (i : Nat) (s' : Nat → Option Bl) (V' : Nat → Value) (X' : Nat → List Value) (wr : World) : Prop where
 sh : Sh m wr bk s' V' X'
 ty : Typ s'
 rest : Rest q V V' X X'
 old : ∀ k g, s k = some g → g.kd ≠ q → s' k = some g
 c2 : V' (206 + 9 * q) = V (6 + 9 * q) ∧ X' (206 + 9 * q) = X (6 + 9 * q)
 c3 : V' (207 + 9 * q) = V (7 + 9 * q) ∧ X' (207 + 9 * q) = X (7 + 9 * q)
 c5 : V' (209 + 9 * q) = V (9 + 9 * q) ∧ X' (209 + 9 * q) = X (9 + 9 * q)
 c6 : V' (210 + 9 * q) = V (10 + 9 * q) ∧ X' (210 + 9 * q) = X (10 + 9 * q)
 ki : Ki s' q R (X' (4 + 9 * q)) (X' (5 + 9 * q)) (X' (6 + 9 * q) ++ (X (6 + 9 * q)).drop i) (X' (7 + 9 * q) ++ (X (7 + 9 * q)).drop i) (X' (8 + 9 * q))
 l7 : (X' (7 + 9 * q)).length = (X' (6 + 9 * q)).length
 m1 : (X' (9 + 9 * q)).length = (X' (6 + 9 * q)).length
 m2 : (X' (10 + 9 * q)).length = (X' (6 + 9 * q)).length
 m3 : (X' (11 + 9 * q)).length = (X' (8 + 9 * q)).length
 n1 : Num (X' (9 + 9 * q))
 n2 : Num (X' (10 + 9 * q))
 n3 : Num (X' (11 + 9 * q))
 v8 : ∃ n, V' (12 + 9 * q) = .int .i64 n
 fr : Fr m w wr
section
variable {m : Nat → Prop} {w wr w1 : World} {bk q R i : Nat} {s s' s1 : Nat → Option Bl} {V V' V1 : Nat → Value} {X X' X1 : Nat → List Value} {d : Int}
theorem drop_cons {l : List Value} {i : Nat} {x : Value} (h : l[i]? = some x) : l.drop i = x :: l.drop (i + 1) := by
 obtain ⟨hl, rfl⟩ := List.getElem?_eq_some_iff.1 h
 exact List.drop_eq_getElem_cons hl
theorem rty200 (j : Nat) (hj : j < 121) : rty (j + 200) = rty j := by unfold rty; rw [show (j + 200) % 200 = j % 200 by omega]
theorem Sh.lend' (h : Sh m w bk s V X) (hj : i < 121) (hr : rty i ≠ 0) : ∃ V' X', Sh m (w.setCell ⟨bk, i, none⟩ (.slice none 0 0)) bk s V' X' ∧ V' (i + 200) = V i ∧ X' (i + 200) = X i ∧ X' i = [] ∧ ∀ k, k ≠ i → k ≠ i + 200 → V' k = V k ∧ X' k = X k :=
 ⟨_, _, h.lend hj hr (rty200 i hj), upd_same _ _ _, upd_same _ _ _, by rw [upd_ne _ _ (by omega), upd_same], fun k h1 h2 => by rw [upd_ne _ _ h2, upd_ne _ _ h1, upd_ne _ _ h2, upd_ne _ _ h1]; exact ⟨rfl, rfl⟩⟩
theorem rtyq (q : Nat) (hq : q < 13) (j : Nat) (h1 : 4 + 9 * q ≤ j) (h2 : j < 12 + 9 * q) : rty j ≠ 0 := by
 have hs : ∀ k, sty k ≠ 0 := fun k => by unfold sty; split <;> (try decide); split <;> (try decide); split <;> (try decide); split <;> (try decide); split <;> decide
 unfold rty
 rw [show j % 200 = j from Nat.mod_eq_of_lt (by omega), if_neg (by omega)]
 split
 ·exact hs _
 ·rw [if_pos (by omega)]; decide
/-- The four rows are taken over. -/
theorem Mq.start (h : All m w bk s V X R d) (hq : live q) : ∃ V' X', Mq m w bk q R s V X 0 s V' X' ((((w.setCell ⟨bk, 6 + 9 * q, none⟩ (.slice none 0 0)).setCell ⟨bk, 7 + 9 * q, none⟩ (.slice none 0 0)).setCell ⟨bk, 9 + 9 * q, none⟩ (.slice none 0 0)).setCell ⟨bk, 10 + 9 * q, none⟩ (.slice none 0 0)) := by
 have hq13 : q < 13 := by unfold live at hq; omega
 obtain ⟨Va, Xa, ha, a1, a2, a3, a4⟩ := h.sh.lend' (i := 6 + 9 * q) (by omega) (rtyq q hq13 _ (by omega) (by omega))
 obtain ⟨Vb, Xb, hb, b1, b2, b3, b4⟩ := ha.lend' (i := 7 + 9 * q) (by omega) (rtyq q hq13 _ (by omega) (by omega))
 obtain ⟨Vc, Xc, hc, c1, c2, c3, c4⟩ := hb.lend' (i := 9 + 9 * q) (by omega) (rtyq q hq13 _ (by omega) (by omega))
 obtain ⟨Vd, Xd, hd, d1, d2, d3, d4⟩ := hc.lend' (i := 10 + 9 * q) (by omega) (rtyq q hq13 _ (by omega) (by omega))
 have hk := h.ks q hq
 have far : ∀ k, k < 121 → k ≠ 6 + 9 * q → k ≠ 7 + 9 * q → k ≠ 9 + 9 * q → k ≠ 10 + 9 * q → Vd k = V k ∧ Xd k = X k := fun k h0 h1 h2 h3 h4 => by
  rw [(d4 k h4 (by omega)).1, (d4 k h4 (by omega)).2, (c4 k h3 (by omega)).1, (c4 k h3 (by omega)).2, (b4 k h2 (by omega)).1, (b4 k h2 (by omega)).2]
  exact a4 k h1 (by omega)
 have x6 : Xd (6 + 9 * q) = [] := by rw [(d4 _ (by omega) (by omega)).2, (c4 _ (by omega) (by omega)).2, (b4 _ (by omega) (by omega)).2]; exact a3
 have x7 : Xd (7 + 9 * q) = [] := by rw [(d4 _ (by omega) (by omega)).2, (c4 _ (by omega) (by omega)).2]; exact b3
 have x9 : Xd (9 + 9 * q) = [] := by rw [(d4 _ (by omega) (by omega)).2]; exact c3
 have x10 : Xd (10 + 9 * q) = [] := d3
 refine ⟨Vd, Xd, hd, h.ty, fun j h1 h2 => far j h1 (by omega) (by omega) (by omega) (by omega), fun _ _ e _ => e, ⟨?_, ?_⟩, ⟨?_, ?_⟩, ⟨?_, ?_⟩, ⟨?_, ?_⟩, ?_, by rw [x6, x7], by rw [x6, x9], by rw [x6, x10], ?_, ?_, ?_, ?_, ?_, ?_⟩
 ·rw [show 206 + 9 * q = 6 + 9 * q + 200 by omega, (d4 _ (by omega) (by omega)).1, (c4 _ (by omega) (by omega)).1, (b4 _ (by omega) (by omega)).1]; exact a1
 ·rw [show 206 + 9 * q = 6 + 9 * q + 200 by omega, (d4 _ (by omega) (by omega)).2, (c4 _ (by omega) (by omega)).2, (b4 _ (by omega) (by omega)).2]; exact a2
 ·rw [show 207 + 9 * q = 7 + 9 * q + 200 by omega, (d4 _ (by omega) (by omega)).1, (c4 _ (by omega) (by omega)).1, b1]; exact (a4 _ (by omega) (by omega)).1
 ·rw [show 207 + 9 * q = 7 + 9 * q + 200 by omega, (d4 _ (by omega) (by omega)).2, (c4 _ (by omega) (by omega)).2, b2]; exact (a4 _ (by omega) (by omega)).2
 ·rw [show 209 + 9 * q = 9 + 9 * q + 200 by omega, (d4 _ (by omega) (by omega)).1, c1, (b4 _ (by omega) (by omega)).1]; exact (a4 _ (by omega) (by omega)).1
 ·rw [show 209 + 9 * q = 9 + 9 * q + 200 by omega, (d4 _ (by omega) (by omega)).2, c2, (b4 _ (by omega) (by omega)).2]; exact (a4 _ (by omega) (by omega)).2
 ·rw [show 210 + 9 * q = 10 + 9 * q + 200 by omega, d1, (c4 _ (by omega) (by omega)).1, (b4 _ (by omega) (by omega)).1]; exact (a4 _ (by omega) (by omega)).1
 ·rw [show 210 + 9 * q = 10 + 9 * q + 200 by omega, d2, (c4 _ (by omega) (by omega)).2, (b4 _ (by omega) (by omega)).2]; exact (a4 _ (by omega) (by omega)).2
 ·rw [x6, x7, (far _ (by omega) (by omega) (by omega) (by omega) (by omega)).2, (far (5 + 9 * q) (by omega) (by omega) (by omega) (by omega) (by omega)).2, (far (8 + 9 * q) (by omega) (by omega) (by omega) (by omega) (by omega)).2]
  exact hk.ki
 ·rw [(far _ (by omega) (by omega) (by omega) (by omega) (by omega)).2, (far (8 + 9 * q) (by omega) (by omega) (by omega) (by omega) (by omega)).2]; exact hk.m3
 ·rw [x9]; exact fun v hv => by simp at hv
 ·rw [x10]; exact fun v hv => by simp at hv
 ·rw [(far _ (by omega) (by omega) (by omega) (by omega) (by omega)).2]; exact hk.n3
 ·rw [(far _ (by omega) (by omega) (by omega) (by omega) (by omega)).1]; exact h.v8 q hq13
 ·exact (((Fr.set h.sh.mb _).then_ (Fr.set h.sh.mb _)).then_ (Fr.set h.sh.mb _)).then_ (Fr.set h.sh.mb _)
/-- All are looked at. -/
theorem Mq.fin (h0 : All m w bk s V X R d) (hq : live q) (h : Mq m w bk q R s V X i s' V' X' wr) (hi : (X (6 + 9 * q)).length ≤ i) : All m wr bk s' V' X' R d := by
 refine h0.work hq h.sh h.ty h.rest (fun k g e1 e2 _ => h.old k g e1 e2) ⟨?_, h.m1, h.m2, h.m3, h.n1, h.n2, h.n3⟩ h.v8 (Nat.le_refl _) h0.rb
 have := h.ki
 have hl := (h0.ks q hq).ki.wn
 rw [List.drop_eq_nil_of_le hi, List.drop_eq_nil_of_le (by omega), List.append_nil, List.append_nil] at this
 exact this
/-- One waits on. -/
theorem Mq.wait {v u : Value} {a b : Int} (h : Mq m w bk q R s V X i s' V' X' wr) (hq : q < 13) (hv : (X (6 + 9 * q))[i]? = some v) (hu : (X (7 + 9 * q))[i]? = some u) (hs : Sh m w1 bk s' V1 X1)
  (hX : X1 = upd (upd (upd (upd X' (6 + 9 * q) (X' (6 + 9 * q) ++ [v])) (7 + 9 * q) (X' (7 + 9 * q) ++ [u])) (9 + 9 * q) (X' (9 + 9 * q) ++ [.int .i64 a])) (10 + 9 * q) (X' (10 + 9 * q) ++ [.int .i64 b]))
  (hV : ∀ j, j ≠ 6 + 9 * q → j ≠ 7 + 9 * q → j ≠ 9 + 9 * q → j ≠ 10 + 9 * q → V1 j = V' j) (hf : Fr m wr w1) : Mq m w bk q R s V X (i + 1) s' V1 X1 w1 := by
 have far : ∀ j, j ≠ 6 + 9 * q → j ≠ 7 + 9 * q → j ≠ 9 + 9 * q → j ≠ 10 + 9 * q → X1 j = X' j := fun j h1 h2 h3 h4 => by rw [hX, upd_ne _ _ h4, upd_ne _ _ h3, upd_ne _ _ h2, upd_ne _ _ h1]
 have x6 : X1 (6 + 9 * q) = X' (6 + 9 * q) ++ [v] := by rw [hX, upd_ne _ _ (by omega), upd_ne _ _ (by omega), upd_ne _ _ (by omega), upd_same]
 have x7 : X1 (7 + 9 * q) = X' (7 + 9 * q) ++ [u] := by rw [hX, upd_ne _ _ (by omega), upd_ne _ _ (by omega), upd_same]
 have x9 : X1 (9 + 9 * q) = X' (9 + 9 * q) ++ [.int .i64 a] := by rw [hX, upd_ne _ _ (by omega), upd_same]
 have x10 : X1 (10 + 9 * q) = X' (10 + 9 * q) ++ [.int .i64 b] := by rw [hX, upd_same]
 refine ⟨hs, h.ty, fun j h1 h2 => ⟨(hV j (by omega) (by omega) (by omega) (by omega)).trans (h.rest j h1 h2).1, (far j (by omega) (by omega) (by omega) (by omega)).trans (h.rest j h1 h2).2⟩, h.old,
  ⟨(hV _ (by omega) (by omega) (by omega) (by omega)).trans h.c2.1, (far _ (by omega) (by omega) (by omega) (by omega)).trans h.c2.2⟩, ⟨(hV _ (by omega) (by omega) (by omega) (by omega)).trans h.c3.1, (far _ (by omega) (by omega) (by omega) (by omega)).trans h.c3.2⟩,
  ⟨(hV _ (by omega) (by omega) (by omega) (by omega)).trans h.c5.1, (far _ (by omega) (by omega) (by omega) (by omega)).trans h.c5.2⟩, ⟨(hV _ (by omega) (by omega) (by omega) (by omega)).trans h.c6.1, (far _ (by omega) (by omega) (by omega) (by omega)).trans h.c6.2⟩,
  ?_, by rw [x6, x7]; simp [h.l7], by rw [x6, x9]; simp [h.m1], by rw [x6, x10]; simp [h.m2], by rw [far _ (by omega) (by omega) (by omega) (by omega), far (8 + 9 * q) (by omega) (by omega) (by omega) (by omega)]; exact h.m3,
  by rw [x9]; exact h.n1.snoc a, by rw [x10]; exact h.n2.snoc b, by rw [far _ (by omega) (by omega) (by omega) (by omega)]; exact h.n3, by rw [hV _ (by omega) (by omega) (by omega) (by omega)]; exact h.v8, h.fr.then_ hf⟩
 have := h.ki
 rw [drop_cons hv, drop_cons hu] at this
 rw [x6, x7, far _ (by omega) (by omega) (by omega) (by omega), far (5 + 9 * q) (by omega) (by omega) (by omega) (by omega), far (8 + 9 * q) (by omega) (by omega) (by omega) (by omega), List.append_assoc, List.append_assoc]
 exact this
/-- One is written over: s1 its cells anew, and a copy of them in block kc. -/
theorem Mq.mark {v u : Value} {a : Int} {A : Option Addr} {n c kc c1 : Nat} {L : List Value} (h : Mq m w bk q R s V X i s' V' X' wr) (hq : q < 13) (hv : (X (6 + 9 * q))[i]? = some v) (hu : (X (7 + 9 * q))[i]? = some u)
  (hvl : Vl s1 q 1 v A n c L) (ht : Typ s1) (ho : ∀ k g, s' k = some g → v.ownBlock ≠ some k → s1 k = some g) (hkc : s1 kc = none) (hs : Sh m w1 bk (upd s1 kc (some ⟨q, 3, n, c1, L⟩)) V1 X1)
  (hX : X1 = upd (upd (upd (upd X' (4 + 9 * q) (X' (4 + 9 * q) ++ [v])) (5 + 9 * q) (X' (5 + 9 * q) ++ [.slice (some ⟨kc, 0, none⟩) n c1])) (8 + 9 * q) (X' (8 + 9 * q) ++ [v])) (11 + 9 * q) (X' (11 + 9 * q) ++ [.int .i64 a]))
  (hV : ∀ j, j ≠ 4 + 9 * q → j ≠ 5 + 9 * q → j ≠ 8 + 9 * q → j ≠ 11 + 9 * q → V1 j = V' j) (hf : Fr m wr w1) : ∃ s2, Mq m w bk q R s V X (i + 1) s2 V1 X1 w1 := by
 have far : ∀ j, j ≠ 4 + 9 * q → j ≠ 5 + 9 * q → j ≠ 8 + 9 * q → j ≠ 11 + 9 * q → X1 j = X' j := fun j h1 h2 h3 h4 => by rw [hX, upd_ne _ _ h4, upd_ne _ _ h3, upd_ne _ _ h2, upd_ne _ _ h1]
 have x4 : X1 (4 + 9 * q) = X' (4 + 9 * q) ++ [v] := by rw [hX, upd_ne _ _ (by omega), upd_ne _ _ (by omega), upd_ne _ _ (by omega), upd_same]
 have x5 : X1 (5 + 9 * q) = X' (5 + 9 * q) ++ [.slice (some ⟨kc, 0, none⟩) n c1] := by rw [hX, upd_ne _ _ (by omega), upd_ne _ _ (by omega), upd_same]
 have x8 : X1 (8 + 9 * q) = X' (8 + 9 * q) ++ [v] := by rw [hX, upd_ne _ _ (by omega), upd_same]
 have x11 : X1 (11 + 9 * q) = X' (11 + 9 * q) ++ [.int .i64 a] := by rw [hX, upd_same]
 have main : ∀ s2, Sh m w1 bk s2 V1 X1 → Typ s2 → (∀ k g, s k = some g → g.kd ≠ q → s2 k = some g) → (∀ k g, s' k = some g → g.kd = q → 1 ≤ g.role → v.ownBlock ≠ some k → s2 k = some g) → Ex s2 q 2 v → Pr s2 q (2 ≤ ·) (2 ≤ ·) v (.slice (some ⟨kc, 0, none⟩) n c1) → Mq m w bk q R s V X (i + 1) s2 V1 X1 w1 := fun s2 h1 h2 h3 h4 h5 h6 => by
  refine ⟨h1, h2, fun j h1 h2 => ⟨(hV j (by omega) (by omega) (by omega) (by omega)).trans (h.rest j h1 h2).1, (far j (by omega) (by omega) (by omega) (by omega)).trans (h.rest j h1 h2).2⟩, h3,
   ⟨(hV _ (by omega) (by omega) (by omega) (by omega)).trans h.c2.1, (far _ (by omega) (by omega) (by omega) (by omega)).trans h.c2.2⟩, ⟨(hV _ (by omega) (by omega) (by omega) (by omega)).trans h.c3.1, (far _ (by omega) (by omega) (by omega) (by omega)).trans h.c3.2⟩,
   ⟨(hV _ (by omega) (by omega) (by omega) (by omega)).trans h.c5.1, (far _ (by omega) (by omega) (by omega) (by omega)).trans h.c5.2⟩, ⟨(hV _ (by omega) (by omega) (by omega) (by omega)).trans h.c6.1, (far _ (by omega) (by omega) (by omega) (by omega)).trans h.c6.2⟩,
   ?_, ?_, ?_, ?_, by rw [x8, x11]; simp [h.m3], ?_, ?_, by rw [x11]; exact h.n3.snoc a, by rw [hV _ (by omega) (by omega) (by omega) (by omega)]; exact h.v8, h.fr.then_ hf⟩
  ·have := h.ki
   rw [drop_cons hv, drop_cons hu] at this
   rw [x4, x5, x8, far _ (by omega) (by omega) (by omega) (by omega), far (7 + 9 * q) (by omega) (by omega) (by omega) (by omega)]
   exact this.mark h.l7 h4 h5 h6
  ·rw [far _ (by omega) (by omega) (by omega) (by omega), far (6 + 9 * q) (by omega) (by omega) (by omega) (by omega)]; exact h.l7
  ·rw [far _ (by omega) (by omega) (by omega) (by omega), far (6 + 9 * q) (by omega) (by omega) (by omega) (by omega)]; exact h.m1
  ·rw [far _ (by omega) (by omega) (by omega) (by omega), far (6 + 9 * q) (by omega) (by omega) (by omega) (by omega)]; exact h.m2
  ·rw [far _ (by omega) (by omega) (by omega) (by omega)]; exact h.n1
  ·rw [far _ (by omega) (by omega) (by omega) (by omega)]; exact h.n2
 have hle := Le.new hkc (⟨q, 3, n, c1, L⟩ : Bl)
 have hne : ∀ k g, s1 k = some g → upd s1 kc (some ⟨q, 3, n, c1, L⟩) k = some g := fun k g hk => by rw [upd_ne _ _ (fun e => by rw [e, hkc] at hk; cases hk)]; exact hk
 have hE0 : ∀ k g, s' k = some g → v.ownBlock = some k → g.kd = q := fun k g hk hb => by
  have := h.ki.we v (List.mem_append_right _ (by rw [drop_cons hv]; exact List.mem_cons_self ..))
  rcases this with e | ⟨k', g', e, e1, e2, e3⟩
  ·rw [e] at hb; cases hb
  ·rw [e] at hb; obtain rfl : k' = k := by simpa [Value.ownBlock] using hb
   rw [e1] at hk; cases hk; exact e2
 obtain ⟨rfl, ⟨rfl, rfl, rfl, rfl⟩ | ⟨k, rfl, hk⟩⟩ := hvl
 ·exact ⟨_, main _ hs (ht.put hle ⟨by simp, fun _ => by simp, fun i hi => by simp at hi, fun u hu => by simp at hu⟩) (fun k g e1 e2 => hne k g (ho k g (h.old k g e1 e2) (by simp [Value.ownBlock]))) (fun k g e1 _ _ e2 => hne k g (ho k g e1 e2)) (.inl rfl) ⟨_, _, 0, _, _, rfl, rfl, by omega, fun h0 => by omega⟩⟩
 ·have hkk : k ≠ kc := fun e => by rw [e, hkc] at hk; cases hk
  have hk2 := hne k _ hk
  have hT := ht k _ hk
  have hty1 := ht.put hle (g := ⟨q, 3, n, c1, L⟩) ⟨hT.le, fun h3 => by simp at h3, fun i hi => (hT.el i hi).mono hle, hT.one⟩
  have hle2 := Le.change (g2 := ⟨q, 2, n, c, L⟩) hk2 rfl (Nat.le_refl _)
  refine ⟨_, main _ (hs.change hk2 (g2 := ⟨q, 2, n, c, L⟩) (grown_refl _ _) (hs.fit k _ hk2).2) (hty1.put hle2 ⟨hT.le, fun _ => hT.le2 (by simp), fun i hi => ((hT.el i hi).mono hle).mono hle2, hT.one⟩) (fun j g e1 e2 => ?_) (fun j g e1 _ _ e2 => ?_) (.inr ⟨k, _, rfl, upd_same _ _ _, rfl, rfl⟩) ?_⟩
  ·have hj := h.old j g e1 e2
   have hjk : j ≠ k := fun e => e2 (hE0 j g hj (by rw [e]; rfl))
   rw [upd_ne _ _ hjk]
   exact hne j g (ho j g hj (by simpa [Value.ownBlock] using fun e => hjk e.symm))
  ·have hjk : j ≠ k := fun e => e2 (by rw [e]; rfl)
   rw [upd_ne _ _ hjk]
   exact hne j g (ho j g e1 e2)
  ·exact ⟨_, _, n, _, _, rfl, rfl, hT.le, fun _ => ⟨k, kc, ⟨q, 2, n, c, L⟩, ⟨q, 3, n, c1, L⟩, rfl, rfl, upd_same _ _ _, by rw [upd_ne _ _ (fun e => hkk e.symm), upd_same], rfl, rfl, by simp, by simp, Nat.le_refl _, Nat.le_refl _, rfl⟩⟩
end
end Go.Proofs.YtihjjkoddphmiaaGreatDoor.bk
namespace Go.Proofs.YtihjjkoddphmiaaGreatDoor.bk
open Go.RowKit Go.Proofs.YtihjjkoddphmiaaGreatDoorW.PrintWords
set_option linter.unusedVariables false
set_option linter.unusedSimpArgs false
section
variable {m : Nat → Prop} {w wr w1 : World} {bk q R i : Nat} {s s' s1 : Nat → Option Bl} {V : Nat → Value} {X : Nat → List Value} {v u : Value} {a b : Nat → Prop}
theorem drop_at {L cs : List Value} {p k j : Nat} (h : (L.drop p).take k = cs) (hj : j < cs.length) : L[p + j]? = cs[j]? := by
 subst h
 have : j < k := by simp at hj; omega
 rw [List.getElem?_take, if_pos this, List.getElem?_drop]
theorem Sh.kat (h : Sh m w bk s V X) {k : Nat} {g : Bl} (hk : s k = some g) {i : Nat} {x : Value} (hx : g.L[i]? = some x) : w.cell? ⟨k, i, none⟩ = some x := by
 have := (h.fit k g hk).2.cells (g := k) rfl i x hx
 rwa [add_eq] at this
theorem take_at {L M : List Value} {n i : Nat} (h : L.take n = M.take n) (hi : i < n) : L[i]? = M[i]? := by
 have := congrArg (fun l => l[i]?) h
 simpa [List.getElem?_take, hi] using this
/-- A slice that may be read is like itself. -/
theorem RdS.pr (h : RdS s q v) : Pr s q (fun _ => True) (fun _ => True) v v := by
 obtain ⟨A, n, c, rfl, hn, hk⟩ := h
 refine ⟨A, A, n, c, c, rfl, rfl, hn, fun h0 => ?_⟩
 obtain ⟨k, g, e1, e2, e3, e4⟩ := hk h0
 exact ⟨k, k, g, g, e1, e1, e2, e2, e3, e3, trivial, trivial, e4, e4, rfl⟩
/-- The elements of two such slices: one and the same cells. -/
theorem Pr.cells (h : Pr s q a b v u) (hs : Sh m w bk s V X) (ht : Typ s) : ∃ A B n c d, v = .slice A n c ∧ u = .slice B n d ∧ n ≤ 1099511627776 ∧ ∀ i, i < n → ∃ k l cs, A = some ⟨k, 0, none⟩ ∧ B = some ⟨l, 0, none⟩ ∧ TyE s q cs ∧ ∀ j x, cs[j]? = some x → w.cell? ⟨k, i * esz q + j, none⟩ = some x ∧ w.cell? ⟨l, i * esz q + j, none⟩ = some x := by
 obtain ⟨A, B, n, c, d, e1, e2, hn, hk⟩ := h
 refine ⟨A, B, n, c, d, e1, e2, hn, fun i hi => ?_⟩
 obtain ⟨k, l, g, h, f1, f2, f3, f4, f5, f6, -, -, f7, f8, f9⟩ := hk (by omega)
 have he := (ht k g f3).el i (by omega)
 rw [f5] at he
 refine ⟨k, l, _, f1, f2, he, fun j x hx => ?_⟩
 have hj := (List.getElem?_eq_some_iff.1 hx).1
 have hje : j < esz q := by simp at hj; omega
 have hlt : i * esz q + j < n * esz q := by
  have : (i + 1) * esz q ≤ n * esz q := Nat.mul_le_mul_right _ (by omega)
  rw [Nat.add_mul, Nat.one_mul] at this; omega
 have h1 : g.L[i * esz q + j]? = some x := (drop_at rfl hj).trans hx
 exact ⟨hs.kat f3 h1, hs.kat f4 ((take_at f9 hlt).symm.trans h1)⟩
theorem Pr.q0 (h : Pr s 0 a b v u) (hs : Sh m w bk s V X) (ht : Typ s) : Q1 .u8 w v u := by
 obtain ⟨A, B, n, c, d, e1, e2, hn, hc⟩ := h.cells hs ht
 refine ⟨A, B, n, c, d, e1, e2, hn, fun i hi => ?_⟩
 obtain ⟨k, l, cs, f1, f2, ⟨x, rfl⟩, f4⟩ := hc i hi
 have := f4 0 _ rfl
 exact ⟨k, l, x, f1, f2, by simpa [esz] using this.1, by simpa [esz] using this.2⟩
theorem Pr.q1 (h : Pr s 1 a b v u) (hs : Sh m w bk s V X) (ht : Typ s) : Q1 .i64 w v u := by
 obtain ⟨A, B, n, c, d, e1, e2, hn, hc⟩ := h.cells hs ht
 refine ⟨A, B, n, c, d, e1, e2, hn, fun i hi => ?_⟩
 obtain ⟨k, l, cs, f1, f2, ⟨x, rfl⟩, f4⟩ := hc i hi
 have := f4 0 _ rfl
 exact ⟨k, l, x, f1, f2, by simpa [esz] using this.1, by simpa [esz] using this.2⟩
theorem Pr.q3 (h : Pr s 3 a b v u) (hs : Sh m w bk s V X) (ht : Typ s) : Q1 .u64 w v u := by
 obtain ⟨A, B, n, c, d, e1, e2, hn, hc⟩ := h.cells hs ht
 refine ⟨A, B, n, c, d, e1, e2, hn, fun i hi => ?_⟩
 obtain ⟨k, l, cs, f1, f2, ⟨x, rfl⟩, f4⟩ := hc i hi
 have := f4 0 _ rfl
 exact ⟨k, l, x, f1, f2, by simpa [esz] using this.1, by simpa [esz] using this.2⟩
theorem Pr.q9 (h : Pr s 9 a b v u) (hs : Sh m w bk s V X) (ht : Typ s) : Q9 (Q1 .i64) w v u := by
 obtain ⟨A, B, n, c, d, e1, e2, hn, hc⟩ := h.cells hs ht
 refine ⟨A, B, n, c, d, e1, e2, hn, fun i hi => ?_⟩
 obtain ⟨k, l, cs, f1, f2, ⟨x, rfl, hx⟩, f4⟩ := hc i hi
 have := f4 0 _ rfl
 exact ⟨k, l, x, f1, f2, by simpa [esz] using this.1, by simpa [esz] using this.2, hx.pr.q1 hs ht⟩
theorem Pr.q11 (h : Pr s 11 a b v u) (hs : Sh m w bk s V X) (ht : Typ s) : Q9 (Q9 (Q1 .i64)) w v u := by
 obtain ⟨A, B, n, c, d, e1, e2, hn, hc⟩ := h.cells hs ht
 refine ⟨A, B, n, c, d, e1, e2, hn, fun i hi => ?_⟩
 obtain ⟨k, l, cs, f1, f2, ⟨x, rfl, hx⟩, f4⟩ := hc i hi
 have := f4 0 _ rfl
 exact ⟨k, l, x, f1, f2, by simpa [esz] using this.1, by simpa [esz] using this.2, hx.pr.q9 hs ht⟩
theorem Pr.q12 (h : Pr s 12 a b v u) (hs : Sh m w bk s V X) (ht : Typ s) : Q12 w v u := by
 obtain ⟨A, B, n, c, d, e1, e2, hn, hc⟩ := h.cells hs ht
 refine ⟨A, B, n, c, d, e1, e2, hn, fun i hi => ?_⟩
 obtain ⟨k, l, cs, f1, f2, ⟨x, y, z, p, r, rfl, hp, hr⟩, f4⟩ := hc i hi
 have h0 := f4 0 _ rfl
 have h1 := f4 1 _ rfl
 have h2 := f4 2 _ rfl
 have h3 := f4 3 _ rfl
 have h4 := f4 4 _ rfl
 exact ⟨k, l, x, y, z, p, r, f1, f2, ⟨h0.1, h1.1, h2.1, h3.1, h4.1⟩, ⟨h0.2, h1.2, h2.2, h3.2, h4.2⟩, hp.pr.q1 hs ht, hr.pr.q3 hs ht⟩
/-- A row's cell, its slice told. -/
theorem Sh.vcell (h : Sh m w bk s V X) {j p n c : Nat} (hr : rty j ≠ 0) (hv : V j = .slice (some ⟨p, 0, none⟩) n c) {i : Nat} {x : Value} (hx : (X j)[i]? = some x) : w.cell? ⟨p, i, none⟩ = some x := by
 obtain ⟨b, c', e, hc⟩ := h.rcell hr hx
 rw [hv] at e
 injection e with e1
 injection e1 with e1
 injection e1 with e1
 subst e1; exact hc
theorem Mq.still {V' : Nat → Value} {X' : Nat → List Value} (h : Mq m w bk q R s V X i s' V' X' wr) (hg : wr.grownBy w1 none) : Mq m w bk q R s V X i s' V' X' w1 :=
 ⟨h.sh.still hg, h.ty, h.rest, h.old, h.c2, h.c3, h.c5, h.c6, h.ki, h.l7, h.m1, h.m2, h.m3, h.n1, h.n2, h.n3, h.v8, h.fr.then_ (h.sh.frS hg)⟩
end
end Go.Proofs.YtihjjkoddphmiaaGreatDoor.bk
