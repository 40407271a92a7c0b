/-
  The Book of middenkept: lists that are handed over, lists within lists.
-/
import Derived.Test.YtihjjkoddphmiaaGreatDoorNBkS
import Derived.Deep.RegionHeld3
import Derived.Deep.RegionLaw
namespace Go.Proofs.YtihjjkoddphmiaaGreatDoor.bk
open Go.RowKit Go.Proofs.YtihjjkoddphmiaaGreatDoorW.PrintWords
set_option linter.unusedVariables false
set_option linter.unusedSimpArgs false

def live (q : Nat) : Prop := q = 0 ∨ q = 1 ∨ q = 3 ∨ q = 9 ∨ q = 11 ∨ q = 12
def Num (xs : List Value) : Prop := ∀ v ∈ xs, ∃ x, v = .int .i64 x
theorem Num.snoc {xs : List Value} (h : Num xs) (x : Int) : Num (xs ++ [.int .i64 x]) := fun v hv => by
 rcases List.mem_append.1 hv with hv | hv
 ·exact h v hv
 ·exact ⟨x, List.mem_singleton.1 hv⟩
/-- One kind's cells. -/
structure Kq (s : Nat → Option Bl) (X : Nat → List Value) (q R : Nat) : Prop where
 ki : Ki s q R (X (4 + 9 * q)) (X (5 + 9 * q)) (X (6 + 9 * q)) (X (7 + 9 * q)) (X (8 + 9 * q))
 m1 : (X (9 + 9 * q)).length = (X (6 + 9 * q)).length
 m2 : (X (10 + 9 * q)).length = (X (6 + 9 * q)).length
 m3 : (X (11 + 9 * q)).length = (X (8 + 9 * q)).length
 n1 : Num (X (9 + 9 * q))
 n2 : Num (X (10 + 9 * q))
 n3 : Num (X (11 + 9 * q))
/-- The Book, at depth d. -/
structure All (m : Nat → Prop) (w : World) (bk : Nat) (s : Nat → Option Bl) (V : Nat → Value) (X : Nat → List Value) (R : Nat) (d : Int) : Prop where
 sh : Sh m w bk s V X
 ty : Typ s
 ks : ∀ q, live q → Kq s X q R
 dd : ∀ q, ¬ live q → q < 13 → ∀ i, i < 8 → V (4 + 9 * q + i) = .slice none 0 0
 v0 : V 0 = .bool false
 v1 : V 1 = .bool false
 v2 : ∃ t, V 2 = .int .i64 t
 v3 : V 3 = .int .i64 d
 v8 : ∀ q, q < 13 → ∃ n, V (12 + 9 * q) = .int .i64 n
 rb : R ≤ 1099511627776
section
variable {m : Nat → Prop} {w w1 W : World} {bk j k q R R2 : Nat} {s s' : Nat → Option Bl} {V V' : Nat → Value} {X X' : Nat → List Value} {g : Bl} {v y : Value} {d d2 : Int}
theorem Kq.far (h : Kq s X q R) (hX : ∀ j, 4 + 9 * q ≤ j → j < 13 + 9 * q → X' j = X j) (hs : ∀ k g, s k = some g → g.kd = q → 1 ≤ g.role → s' k = some g) (hR : R ≤ R2) : Kq s' X' q R2 := by
 refine ⟨?_, ?_, ?_, ?_, ?_, ?_, ?_⟩
 ·rw [hX _ (by omega) (by omega), hX _ (by omega) (by omega), hX _ (by omega) (by omega), hX _ (by omega) (by omega), hX _ (by omega) (by omega)]
  exact (h.ki.far hs).room hR
 ·rw [hX _ (by omega) (by omega), hX _ (by omega) (by omega)]; exact h.m1
 ·rw [hX _ (by omega) (by omega), hX _ (by omega) (by omega)]; exact h.m2
 ·rw [hX _ (by omega) (by omega), hX _ (by omega) (by omega)]; exact h.m3
 ·rw [hX _ (by omega) (by omega)]; exact h.n1
 ·rw [hX _ (by omega) (by omega)]; exact h.n2
 ·rw [hX _ (by omega) (by omega)]; exact h.n3
/-- One kind is worked on. -/
theorem All.work (h : All m w bk s V X R d) (hq : live q) (hs : Sh m w1 bk s' V' X') (ht : Typ s') (hr : Rest q V V' X X') (hf : ∀ k g, s k = some g → g.kd ≠ q → 1 ≤ g.role → s' k = some g) (hk : Kq s' X' q R2) (h8 : ∃ n, V' (12 + 9 * q) = .int .i64 n) (hR : R ≤ R2) (hb : R2 ≤ 1099511627776) : All m w1 bk s' V' X' R2 d := by
 have hq13 : q < 13 := by unfold live at hq; omega
 refine ⟨hs, ht, fun p hp => ?_, fun p hp h13 i hi => ?_, ?_, ?_, ?_, ?_, fun p hp => ?_, hb⟩
 ·by_cases e : p = q
  ·subst e; exact hk
  ·have hp13 : p < 13 := by unfold live at hp; omega
   exact (h.ks p hp).far (fun j h1 h2 => (hr j (by omega) (by omega)).2) (fun k g e1 e2 e3 => hf k g e1 (by omega) e3) hR
 ·have : p ≠ q := fun e => hp (e ▸ hq)
  rw [(hr _ (by omega) (by omega)).1]; exact h.dd p hp h13 i hi
 ·rw [(hr 0 (by omega) (by omega)).1]; exact h.v0
 ·rw [(hr 1 (by omega) (by omega)).1]; exact h.v1
 ·rw [(hr 2 (by omega) (by omega)).1]; exact h.v2
 ·rw [(hr 3 (by omega) (by omega)).1]; exact h.v3
 ·by_cases e : p = q
  ·subst e; exact h8
  ·rw [(hr _ (by omega) (by omega)).1]; exact h.v8 p hp
theorem All.deep (h : All m w bk s V X R d) (d2 : Int) : All m (w.setCell ⟨bk, 3, none⟩ (.int .i64 d2)) bk s (upd V 3 (.int .i64 d2)) X R d2 :=
 ⟨h.sh.scal (by decide) rfl, h.ty, h.ks, fun q h1 h2 i h3 => by rw [upd_ne _ _ (by omega)]; exact h.dd q h1 h2 i h3, by rw [upd_ne _ _ (by omega)]; exact h.v0, by rw [upd_ne _ _ (by omega)]; exact h.v1, by rw [upd_ne _ _ (by omega)]; exact h.v2, upd_same _ _ _, fun q hq => by rw [upd_ne _ _ (by omega)]; exact h.v8 q hq, h.rb⟩
theorem All.turn (h : All m w bk s V X R d) (t : Int) : All m (w.setCell ⟨bk, 2, none⟩ (.int .i64 t)) bk s (upd V 2 (.int .i64 t)) X R d :=
 ⟨h.sh.scal (by decide) rfl, h.ty, h.ks, fun q h1 h2 i h3 => by rw [upd_ne _ _ (by omega)]; exact h.dd q h1 h2 i h3, by rw [upd_ne _ _ (by omega)]; exact h.v0, by rw [upd_ne _ _ (by omega)]; exact h.v1, ⟨t, upd_same _ _ _⟩, by rw [upd_ne _ _ (by omega)]; exact h.v3, fun q hq => by rw [upd_ne _ _ (by omega)]; exact h.v8 q hq, h.rb⟩
theorem All.still (h : All m w bk s V X R d) (hg : w.grownBy w1 none) : All m w1 bk s V X R d := ⟨h.sh.still hg, h.ty, h.ks, h.dd, h.v0, h.v1, h.v2, h.v3, h.v8, h.rb⟩
/-- What a kept slice's cells are. -/
theorem Sh.vl {q r n c : Nat} {A : Option Addr} {L : List Value} (h : Sh m w bk s V X) (ht : Typ s) (hv : Vl s q r v A n c L) : v = .slice A n c ∧ L.length = n * esz q ∧ (A = none → n = 0) ∧ (A = none → c = 0) ∧ (∀ ad, A = some ad → ∀ j u, L[j]? = some u → w.cell? (ad.add j) = some u) ∧ (∀ u ∈ L, u.oneCell' = true) ∧ n ≤ 1099511627776 ∧ (r ≤ 2 → n ≤ 1073741824) := by
 obtain ⟨rfl, ⟨rfl, rfl, rfl, rfl⟩ | ⟨k, rfl, hk⟩⟩ := hv
 ·exact ⟨rfl, by simp, fun _ => rfl, fun _ => rfl, (fun ad e => nomatch e), (fun u hu => by simp at hu), by omega, fun _ => by omega⟩
 ·have ho := (h.fit k _ hk).2
  refine ⟨rfl, ho.1, (fun e => nomatch e), (fun e => nomatch e), fun ad e => ?_, (ht k _ hk).one, (ht k _ hk).le, (ht k _ hk).le2⟩
  cases e
  exact ho.cells rfl
/-- The kind's lists once one more is noted. -/
theorem All.keep {q n c k1 c1 : Nat} {A : Option Addr} {L : List Value} {a b : Int} (h : All m w bk s V X R d) (hq : live q) (hv : Vl s q 0 v A n c L) (hk1 : s k1 = none) (hs : Sh m w1 bk (upd s k1 (some ⟨q, 3, n, c1, L⟩)) V' X')
  (hX : X' = upd (upd (upd (upd X (6 + 9 * q) (X (6 + 9 * q) ++ [v])) (7 + 9 * q) (X (7 + 9 * q) ++ [.slice (some ⟨k1, 0, none⟩) n c1])) (9 + 9 * q) (X (9 + 9 * q) ++ [.int .i64 a])) (10 + 9 * q) (X (10 + 9 * q) ++ [.int .i64 b]))
  (hr : Rest q V V' X X') (h8 : ∃ n, V' (12 + 9 * q) = .int .i64 n) (hR : R + 2 ≤ 1099511627776) : ∃ s2, All m w1 bk s2 V' X' (R + 2) d ∧ ∀ k g, s k = some g → v.ownBlock ≠ some k → s2 k = some g := by
 have hK := h.ks q hq
 have x4 : X' (4 + 9 * q) = X (4 + 9 * q) := by rw [hX, upd_ne _ _ (by omega), upd_ne _ _ (by omega), upd_ne _ _ (by omega), upd_ne _ _ (by omega)]
 have x5 : X' (5 + 9 * q) = X (5 + 9 * q) := by rw [hX, upd_ne _ _ (by omega), upd_ne _ _ (by omega), upd_ne _ _ (by omega), upd_ne _ _ (by omega)]
 have x6 : X' (6 + 9 * q) = X (6 + 9 * q) ++ [v] := by rw [hX, upd_ne _ _ (by omega), upd_ne _ _ (by omega), upd_ne _ _ (by omega), upd_same]
 have x7 : X' (7 + 9 * q) = X (7 + 9 * q) ++ [.slice (some ⟨k1, 0, none⟩) n c1] := by rw [hX, upd_ne _ _ (by omega), upd_ne _ _ (by omega), upd_same]
 have x8 : X' (8 + 9 * q) = X (8 + 9 * q) := by rw [hX, upd_ne _ _ (by omega), upd_ne _ _ (by omega), upd_ne _ _ (by omega), upd_ne _ _ (by omega)]
 have x9 : X' (9 + 9 * q) = X (9 + 9 * q) ++ [.int .i64 a] := by rw [hX, upd_ne _ _ (by omega), upd_same]
 have x10 : X' (10 + 9 * q) = X (10 + 9 * q) ++ [.int .i64 b] := by rw [hX, upd_same]
 have x11 : X' (11 + 9 * q) = X (11 + 9 * q) := by rw [hX, upd_ne _ _ (by omega), upd_ne _ _ (by omega), upd_ne _ _ (by omega), upd_ne _ _ (by omega)]
 have kq : ∀ s2, Ki s2 q (R + 2) (X (4 + 9 * q)) (X (5 + 9 * q)) (X (6 + 9 * q) ++ [v]) (X (7 + 9 * q) ++ [.slice (some ⟨k1, 0, none⟩) n c1]) (X (8 + 9 * q)) → Kq s2 X' q (R + 2) := fun s2 hki =>
  ⟨by rw [x4, x5, x6, x7, x8]; exact hki, by rw [x9, x6]; simp [hK.m1], by rw [x10, x6]; simp [hK.m2], by rw [x11, x8]; exact hK.m3, by rw [x9]; exact hK.n1.snoc a, by rw [x10]; exact hK.n2.snoc b, by rw [x11]; exact hK.n3⟩
 have hle := Le.new hk1 (⟨q, 3, n, c1, L⟩ : Bl)
 have hne : ∀ k g, s k = some g → upd s k1 (some ⟨q, 3, n, c1, L⟩) k = some g := fun k g hk => by rw [upd_ne _ _ (fun e => by rw [e, hk1] at hk; cases hk)]; exact hk
 obtain ⟨rfl, ⟨rfl, rfl, rfl, rfl⟩ | ⟨k, rfl, hk⟩⟩ := hv
 ·refine ⟨_, h.work hq hs (h.ty.put hle ⟨by simp, fun _ => by simp, fun i hi => by simp at hi, fun u hu => by simp at hu⟩) hr (fun k g e1 _ _ => hne k g e1) (kq _ ?_) h8 (by omega) hR, fun k g e1 _ => hne k g e1⟩
  exact (hK.ki.far (fun k g e1 _ _ => hne k g e1)).keep (.inl rfl) ⟨_, _, 0, _, _, rfl, rfl, by omega, fun h0 => by omega⟩ (fun x hx k e => by simp [Value.ownBlock])
 ·have hkk : k ≠ k1 := fun e => by rw [e, hk1] at hk; cases hk
  have hk2 := hne k _ hk
  have hs2 : ∀ i g, s i = some g → i ≠ k → upd (upd s k1 (some ⟨q, 3, n, c1, L⟩)) k (some ⟨q, 1, n, c, L⟩) i = some g := fun i g hi e => by rw [upd_ne _ _ e]; exact hne i g hi
  have hT := h.ty k _ hk
  have hty1 := h.ty.put hle (g := ⟨q, 3, n, c1, L⟩) ⟨hT.le, fun h3 => by simp at h3, fun i hi => (hT.el i hi).mono hle, hT.one⟩
  have hle2 := Le.change (g2 := ⟨q, 1, n, c, L⟩) hk2 rfl (Nat.le_refl _)
  refine ⟨_, h.work hq (hs.change hk2 (g2 := ⟨q, 1, n, c, L⟩) (grown_refl _ _) (hs.fit k _ hk2).2) (hty1.put hle2 ⟨hT.le, fun _ => hT.le2 (by simp), fun i hi => ((hT.el i hi).mono hle).mono hle2, hT.one⟩) hr (fun i g e1 e2 _ => hs2 i g e1 (fun e => by rw [e, hk] at e1; cases e1; exact e2 rfl)) (kq _ ?_) h8 (by omega) hR, fun i g e1 e2 => hs2 i g e1 (fun e => e2 (by rw [e]; rfl))⟩
  refine (hK.ki.far (fun i g e1 _ e3 => hs2 i g e1 (fun e => by rw [e, hk] at e1; cases e1; simp at e3))).keep (.inr ⟨k, _, rfl, upd_same _ _ _, rfl, rfl⟩) ?_ ?_
  ·exact ⟨_, _, n, _, _, rfl, rfl, hT.le, fun _ => ⟨k, k1, ⟨q, 1, n, c, L⟩, ⟨q, 3, n, c1, L⟩, rfl, rfl, upd_same _ _ _, by rw [upd_ne _ _ (fun e => hkk e.symm), upd_same], rfl, rfl, rfl, by simp, Nat.le_refl _, Nat.le_refl _, rfl⟩⟩
  ·intro x hx i hi hb
   rcases hK.ki.we x hx with e | ⟨k', g', e, e1, e2, e3⟩
   ·rw [e] at hi; cases hi
   ·rw [e] at hi
    obtain rfl : k' = i := by simpa [Value.ownBlock] using hi
    obtain rfl : k = k' := by simpa [Value.ownBlock] using hb
    rw [hk] at e1; cases e1; simp at e3
theorem Sh.frScal (h : Sh m w bk s V X) (j : Nat) (v : Value) : Fr m w (w.setCell ⟨bk, j, none⟩ v) := Fr.set h.mb v
/-- What a row's cell is while its row grows. -/
theorem Sh.mid (h : Sh m w bk s V X) (hg : w.grownBy w1 (V j).ownBlock) {i : Nat} (hi : i < 121) : w1.cell? ⟨bk, i, none⟩ = some (V i) ∧ w1.frozen? ⟨bk, i, none⟩ = false := by
 obtain ⟨C, hb, h1, h2⟩ := h.blk
 have hb1 := blk_grown hb hg (fun e => (h.off j bk e.symm).2 rfl)
 exact ⟨(blk_cell hb1 i).trans (h2 i hi), blk_frozen hb1 i⟩
end
section
variable {P : Program} {ops : Array Oper} {rest : List Oper} {o : Oper} {a : Act} {Q : Exit → Act → World → Prop} {K : Act → World → Prop}
variable {m : Nat → Prop} {W : World} {bk j e : Nat} {s : Nat → Option Bl} {V : Nat → Value} {X : Nat → List Value} {y : Value}
theorem push_after (h : Sh m W bk s V X) (he : rty j = e) (he0 : e ≠ 0) (hj : j < 121) {v1 : Value} {w1 : World} (ho : w1.ownsRow 0 e 1 v1 ((X j).length + 1) (X j ++ [y])) (hg : W.grownBy w1 (V j).ownBlock) (hat : v1.ownBlock = (V j).ownBlock ∨ ∃ b, v1.ownBlock = some b ∧ W.heap.size ≤ b) :
  ∃ A1 c1, v1 = .slice A1 ((X j).length + 1) c1 ∧ Sh m (w1.setCell ⟨bk, j, none⟩ v1) bk s (upd V j v1) (upd X j (X j ++ [y])) ∧ Fr m W (w1.setCell ⟨bk, j, none⟩ v1) ∧ w1.cell? ⟨bk, j, none⟩ = some (V j) ∧ w1.frozen? ⟨bk, j, none⟩ = false := by
 subst he
 obtain ⟨A1, c1, rfl⟩ := own_slice ho
 have h2 := h.mid hg hj
 refine ⟨A1, c1, rfl, h.put (xs := X j ++ [y]) he0 ?_ hg (.inr hat), h.frPut hg _, h2.1, h2.2⟩
 rw [List.length_append, List.length_singleton]; exact ho
/-- b.f = append(b.f, y) in a plain region: behind at_builtin. -/
theorem push_row (h : Sh m W bk s V X) (j : Nat) (hj : j < 121) (he : rty j = e) (he0 : e ≠ 0) (hgd : o.guard = none) (sx x : Operand) (t : TypeId) (z : Value) (bytes : Nat)
  (ho : o.op = .call { callee := .builtin .append, args := #[sx, x], argTypes := #[t, t] })
  (ht : P.underlying t = some (.slice e)) (hinfo : (P.info? e).map (fun i => (i.zero, i.size, i.bytes)) = some (some z, 1, bytes)) (hz : z.cells.size = 1) (hb0 : 0 < bytes)
  (hs : a.eval sx = V j) (hx : a.eval x = .slice (some ⟨W.heap.size, 0, none⟩) 1 1) (h1 : y.oneCell' = true) (hl : ((X j).length + 1) * bytes ≤ 140737488355328)
  (hk : ∀ A1 c1 w1 V1 X1, Aside0 (V1 = upd V j (.slice A1 ((X j).length + 1) c1) ∧ X1 = upd X j (X j ++ [y]) ∧ Sh m (w1.setCell ⟨bk, j, none⟩ (.slice A1 ((X j).length + 1) c1)) bk s V1 X1 ∧ Fr m W (w1.setCell ⟨bk, j, none⟩ (.slice A1 ((X j).length + 1) c1))) → w1.cell? ⟨bk, j, none⟩ = some (V j) → w1.frozen? ⟨bk, j, none⟩ = false → wpList P ops Q rest (a.put o.dst (.slice A1 ((X j).length + 1) c1)) w1) :
  wpList P ops Q (o :: rest) a (W.alloc (.cells #[y] e)) := by
 refine print_append_cells (w0 := W) 0 hgd sx x t e z 1 bytes ho ht hinfo hz (by decide) hb0 (V j) (X j).length (X j) [y] hs hx rfl (by simpa using h1) (he ▸ h.row j (he ▸ he0)) (Below.refl _ _) (Nat.zero_le _) hl ?_
 intro v1 w1 ho1 _ hg hat
 obtain ⟨A1, c1, rfl, h3, h4, h5, h6⟩ := push_after h he he0 hj ho1 hg hat
 exact hk A1 c1 w1 _ _ ⟨rfl, rfl, h3, h4⟩ h5 h6
/-- The same at a step of a region that draws its order. -/
theorem push_step (h : Sh m W bk s V X) (j : Nat) (hj : j < 121) (he : rty j = e) (he0 : e ≠ 0) (hw : Region.wanted o (yielded ops a.tmps) = true) (sx x : Operand) (t : TypeId) (z : Value) (bytes : Nat)
  (ho : o.op = .call { callee := .builtin .append, args := #[sx, x], argTypes := #[t, t] })
  (ht : P.underlying t = some (.slice e)) (hinfo : (P.info? e).map (fun i => (i.zero, i.size, i.bytes)) = some (some z, 1, bytes)) (hz : z.cells.size = 1) (hb0 : 0 < bytes)
  (hs : a.eval sx = V j) (hx : a.eval x = .slice (some ⟨W.heap.size, 0, none⟩) 1 1) (h1 : y.oneCell' = true) (hl : ((X j).length + 1) * bytes ≤ 140737488355328)
  (hk : ∀ A1 c1 w1 V1 X1, Aside0 (V1 = upd V j (.slice A1 ((X j).length + 1) c1) ∧ X1 = upd X j (X j ++ [y]) ∧ Sh m (w1.setCell ⟨bk, j, none⟩ (.slice A1 ((X j).length + 1) c1)) bk s V1 X1 ∧ Fr m W (w1.setCell ⟨bk, j, none⟩ (.slice A1 ((X j).length + 1) c1))) → w1.cell? ⟨bk, j, none⟩ = some (V j) → w1.frozen? ⟨bk, j, none⟩ = false → K (a.put o.dst (.slice A1 ((X j).length + 1) c1)) w1) :
  if Region.wanted o (yielded ops a.tmps) = true then Oper.wp P o a (W.alloc (.cells #[y] e)) K Q else K (a.put o.dst undef) (W.alloc (.cells #[y] e)) := by
 refine step_append_cells (w0 := W) 0 hw sx x t e z 1 bytes ho ht hinfo hz (by decide) hb0 (V j) (X j).length (X j) [y] hs hx rfl (by simpa using h1) (he ▸ h.row j (he ▸ he0)) (Below.refl _ _) (Nat.zero_le _) hl ?_
 intro v1 w1 ho1 _ hg hat
 obtain ⟨A1, c1, rfl, h3, h4, h5, h6⟩ := push_after h he he0 hj ho1 hg hat
 exact hk A1 c1 w1 _ _ ⟨rfl, rfl, h3, h4⟩ h5 h6
/-- append([]T{}, l...), T{} made anew in block g0. -/
theorem run_copy {w : World} (t ty e : TypeId) (i : TypeInfo) (z : Value) (size bytes : Nat) (ht : P.underlying t = some (.slice e)) (hi : P.info? e = some i) (hz : i.zero = some z)
  (hsize : i.size = size) (hby : i.bytes = bytes) (hzs : z.cells.size = size) (hsz : 0 < size) (g0 : Nat) (hown : w.ownsRow 0 e size (.slice (some ⟨g0, 0, none⟩) 0 0) 0 [])
  (A : Option Addr) (n c : Nat) (L : List Value) (hl : L.length = n * size) (hA : A = none → n = 0) (hA0 : A = none → c = 0) (hc : ∀ ad, A = some ad → ∀ j u, L[j]? = some u → w.cell? (ad.add j) = some u) (h1 : ∀ u ∈ L, u.oneCell' = true) (hn : n ≤ 1099511627776) (hb : n * bytes ≤ 140737488355328) :
  ∃ k1 c1 w', (Builtin.append_ #[t, t] ty #[.slice (some ⟨g0, 0, none⟩) 0 0, .slice A n c]).run P w = .ok (.slice (some ⟨k1, 0, none⟩) n c1) w' ∧ w'.ownsRow 0 e size (.slice (some ⟨k1, 0, none⟩) n c1) n L ∧ w.grownBy w' (some g0) ∧ (k1 = g0 ∨ k1 = w.heap.size) := by
 rcases A with _ | ad
 ·obtain rfl := hA rfl
  obtain rfl := hA0 rfl
  obtain rfl : L = [] := List.eq_nil_of_length_eq_zero (by simpa using hl)
  refine ⟨g0, 0, w, ?_, hown, grown_refl _ _, .inl rfl⟩
  simp [Builtin.append_, run_underlying ht, sizeOf, typeInfo, hi, Builtin.lenOf, Builtin.firstCells, storeCells]
 ·obtain ⟨v', w', hr, h2, h3, h4, h5⟩ := run_append_own_at (P := P) w 0 t ty e i z size bytes ht hi hz hsize hby hzs hsz (.slice (some ⟨g0, 0, none⟩) 0 0) 0 [] hown ad n c L hl (hc ad rfl) h1 (by simp only [maxLen]; omega) (by simpa using hb) (Nat.zero_le _)
  rw [Nat.zero_add, List.nil_append] at h2
  rcases h2.2 with ⟨rfl, rfl⟩ | ⟨k1, c1, cur, rfl, h6⟩
  ·exact absurd (h4.1 rfl).1 (by simp)
  ·refine ⟨k1, c1, w', hr, h2, h3, ?_⟩
   rcases h5 with h5 | h5
   ·exact .inl (by simpa [Value.ownBlock] using h5)
   ·exact .inr (by simpa [Value.ownBlock] using h5)
theorem copy_step {w : World} (hw : Region.wanted o (yielded ops a.tmps) = true) (sx x : Operand) (t e : TypeId) (z : Value) (size bytes : Nat)
  (ho : o.op = .call { callee := .builtin .append, args := #[sx, x], argTypes := #[t, t] })
  (ht : P.underlying t = some (.slice e)) (hinfo : (P.info? e).map (fun i => (i.zero, i.size, i.bytes)) = some (some z, size, bytes)) (hzs : z.cells.size = size) (hsz : 0 < size)
  (g0 : Nat) (hs : a.eval sx = .slice (some ⟨g0, 0, none⟩) 0 0) (A : Option Addr) (n c : Nat) (hx : a.eval x = .slice A n c) (hown : w.ownsRow 0 e size (.slice (some ⟨g0, 0, none⟩) 0 0) 0 [])
  (L : List Value) (hl : L.length = n * size) (hA : A = none → n = 0) (hA0 : A = none → c = 0) (hc : ∀ ad, A = some ad → ∀ j u, L[j]? = some u → w.cell? (ad.add j) = some u) (h1 : ∀ u ∈ L, u.oneCell' = true) (hn : n ≤ 1099511627776) (hb : n * bytes ≤ 140737488355328)
  (h : ∀ k1 c1 w1, Aside0 (w1.ownsRow 0 e size (.slice (some ⟨k1, 0, none⟩) n c1) n L ∧ w.grownBy w1 (some g0) ∧ (k1 = g0 ∨ k1 = w.heap.size)) → K (a.put o.dst (.slice (some ⟨k1, 0, none⟩) n c1)) w1) :
  if Region.wanted o (yielded ops a.tmps) = true then Oper.wp P o a w K Q else K (a.put o.dst undef) w := by
 obtain ⟨i0, hi, hzz⟩ := Option.map_eq_some_iff.1 hinfo
 simp only [Prod.mk.injEq] at hzz
 obtain ⟨hz0, hz1, hz2⟩ := hzz
 rw [if_pos hw]
 obtain ⟨k1, c1, w1, hr, h2, h3, h4⟩ := run_copy (P := P) (w := w) t o.type e i0 z size bytes ht hi hz0 hz1 hz2 hzs hsz g0 hown A n c L hl hA hA0 hc h1 hn hb
 unfold Oper.wp execOp
 simp only [ho, resolve, invoke, builtin, Sem.run_bind, Sem.run_pure, Result.andThen_ok, List.map_toArray, List.map_cons, List.map_nil, hs, hx, hr]
 exact h k1 c1 w1 ⟨h2, h3, h4⟩
end
end Go.Proofs.YtihjjkoddphmiaaGreatDoor.bk
namespace Go.Proofs.YtihjjkoddphmiaaGreatDoor.bk
open Go.RowKit Go.Proofs.YtihjjkoddphmiaaGreatDoorW.PrintWords Go.Proofs.YtihjjkoddphmiaaGreatDoorW.PrintLast Go.Proofs.YtihjjkoddphmiaaGreatDoorW.PrintMore Go.Proofs.YtihjjkoddphmiaaGreatDoor.PImageApart
set_option linter.unusedVariables false
set_option linter.unusedSimpArgs false

set_option maxHeartbeats 4000000 in
set_option maxRecDepth 100000 in
theorem due_any (bk : Nat) (n t : Int) (w : World) (h0 : w.cell? ⟨bk, 0, none⟩ = some (.bool false)) (h2 : w.cell? ⟨bk, 2, none⟩ = some (.int .i64 t)) :
  Calls Tryz.prog 38 #[.pointer (some ⟨bk, 0, none⟩), .int .i64 n] w fun e w' => (∃ x, e = .returned (.int .i64 x)) ∧ w' = w := by
 go_enter Tryz.func38, Tryz.ntmps38
 go_wp2
 all_goals
  go_ret
  exact ⟨⟨_, rfl⟩, rfl⟩

section
variable {m : Nat → Prop} {w : World} {bk R : Nat} {s : Nat → Option Bl} {V : Nat → Value} {X : Nat → List Value} {d : Int}
set_option maxHeartbeats 4000000 in
set_option maxRecDepth 100000 in
theorem done_deep (h : All m w bk s V X R d) (hd : 2 ≤ d ∧ d ≤ 1000) : Calls Tryz.prog 34 #[.pointer (some ⟨bk, 0, none⟩)] w fun e w' => e = .returned (.tuple #[]) ∧ (∃ V', All m w' bk s V' X R (d - 1)) ∧ Fr m w w' := by
 have c3 := (h.sh.cell (j := 3) (by decide)).trans (by rw [h.v3])
 have f3 := h.sh.frozen 3
 have e1 : wrap64 (d - 1) = d - 1 := by unfold wrap64; omega
 have p1 : (0 : Int) < d - 1 := by omega
 have HA := Aside0.mk (h.deep (d - 1))
 have HF := Aside0.mk (h.sh.frScal 3 (.int .i64 (d - 1)))
 have c4 := (HA.out.sh.cell (j := 3) (by decide)).trans (by rw [HA.out.v3])
 clear h
 go_enter Tryz.func34, Tryz.ntmps34
 go_wp2
 refine bodyPost_ret (results_none rfl _ _ _) rfl ?_
 exact ⟨rfl, ⟨_, HA.out⟩, HF.out⟩
end
end Go.Proofs.YtihjjkoddphmiaaGreatDoor.bk
namespace Go.Proofs.YtihjjkoddphmiaaGreatDoor.bk
open Go.RowKit Go.Proofs.YtihjjkoddphmiaaGreatDoorW.PrintWords
set_option linter.unusedVariables false
set_option linter.unusedSimpArgs false

/-- A list that is handed over; its block is T's. -/
def Gv (q : Nat) (s : Nat → Option Bl) (v : Value) (T : Nat → Prop) : Prop := Ex s q 0 v ∧ ∀ k, v.ownBlock = some k → T k
/-- A list of such, each of which is E's; F i: the i-th one's blocks. -/
structure GvL (q : Nat) (E : (Nat → Option Bl) → Value → (Nat → Prop) → Prop) (N : Nat) (s : Nat → Option Bl) (v : Value) (T : Nat → Prop) (A : Option Addr) (n c : Nat) (L : List Value) (F : Nat → Nat → Prop) : Prop where
 vl : Vl s q 0 v A n c L
 ln : L.length = n
 el : ∀ i x, L[i]? = some x → E s x (F i)
 ne : ∀ i j k, i < j → j < n → F i k → ¬ F j k
 own : ∀ k, v.ownBlock = some k → T k
 ft : ∀ i k, i < n → F i k → T k
 fo : ∀ i k, i < n → F i k → v.ownBlock ≠ some k
 le : n ≤ N
/-- A list of objects. -/
structure GvO (N : Nat) (s : Nat → Option Bl) (v : Value) (T : Nat → Prop) (A : Option Addr) (n c : Nat) (L : List Value) (F G : Nat → Nat → Prop) : Prop where
 vl : Vl s 12 0 v A n c L
 el : ∀ i, i < n → ∃ p r, L[i * 5 + 3]? = some p ∧ L[i * 5 + 4]? = some r ∧ Gv 1 s p (F i) ∧ Gv 3 s r (G i)
 nf : ∀ i j k, i < j → j < n → F i k → ¬ F j k
 ng : ∀ i j k, i < j → j < n → G i k → ¬ G j k
 fg : ∀ i j k, i < n → j < n → F i k → ¬ G j k
 own : ∀ k, v.ownBlock = some k → T k
 ft : ∀ i k, i < n → F i k ∨ G i k → T k
 fo : ∀ i k, i < n → F i k ∨ G i k → v.ownBlock ≠ some k
 le : n ≤ N
def Gv9 (N : Nat) (s : Nat → Option Bl) (v : Value) (T : Nat → Prop) : Prop := ∃ A n c L F, GvL 9 (Gv 1) N s v T A n c L F
def Gv11 (N : Nat) (s : Nat → Option Bl) (v : Value) (T : Nat → Prop) : Prop := ∃ A n c L F, GvL 11 (Gv9 N) N s v T A n c L F
def Gv12 (N : Nat) (s : Nat → Option Bl) (v : Value) (T : Nat → Prop) : Prop := ∃ A n c L F G, GvO N s v T A n c L F G
section
variable {s s' : Nat → Option Bl} {q N n c : Nat} {v : Value} {T : Nat → Prop} {A : Option Addr} {L : List Value} {F G : Nat → Nat → Prop} {E : (Nat → Option Bl) → Value → (Nat → Prop) → Prop}
theorem Gv.far (h : Gv q s v T) (hs : ∀ k g, s k = some g → T k → s' k = some g) : Gv q s' v T := ⟨h.1.far (fun k g e1 _ _ e2 => hs k g e1 (h.2 k e2)), h.2⟩
theorem Vl.far {r : Nat} (h : Vl s q r v A n c L) (hs : ∀ k g, s k = some g → v.ownBlock = some k → s' k = some g) : Vl s' q r v A n c L := by
 obtain ⟨rfl, h | ⟨k, rfl, h⟩⟩ := h
 ·exact ⟨rfl, .inl h⟩
 ·exact ⟨rfl, .inr ⟨k, rfl, hs k _ h rfl⟩⟩
theorem GvL.far (hE : ∀ {s s' x P}, E s x P → (∀ k g, s k = some g → P k → s' k = some g) → E s' x P) (h : GvL q E N s v T A n c L F) (hs : ∀ k g, s k = some g → T k → s' k = some g) : GvL q E N s' v T A n c L F :=
 ⟨h.vl.far (fun k g e1 e2 => hs k g e1 (h.own k e2)), h.ln, fun i x hx => hE (h.el i x hx) (fun k g e1 e2 => hs k g e1 (h.ft i k (by have := (List.getElem?_eq_some_iff.1 hx).1; have := h.ln; omega) e2)), h.ne, h.own, h.ft, h.fo, h.le⟩
theorem Gv9.far (h : Gv9 N s v T) (hs : ∀ k g, s k = some g → T k → s' k = some g) : Gv9 N s' v T := by
 obtain ⟨A, n, c, L, F, h⟩ := h
 exact ⟨A, n, c, L, F, GvL.far (fun h hs => h.far hs) h hs⟩
theorem Gv11.far (h : Gv11 N s v T) (hs : ∀ k g, s k = some g → T k → s' k = some g) : Gv11 N s' v T := by
 obtain ⟨A, n, c, L, F, h⟩ := h
 exact ⟨A, n, c, L, F, GvL.far (fun h hs => h.far hs) h hs⟩
theorem GvO.far (h : GvO N s v T A n c L F G) (hs : ∀ k g, s k = some g → T k → s' k = some g) : GvO N s' v T A n c L F G :=
 ⟨h.vl.far (fun k g e1 e2 => hs k g e1 (h.own k e2)), fun i hi => by
  obtain ⟨p, r, e1, e2, e3, e4⟩ := h.el i hi
  exact ⟨p, r, e1, e2, e3.far (fun k g f1 f2 => hs k g f1 (h.ft i k hi (.inl f2))), e4.far (fun k g f1 f2 => hs k g f1 (h.ft i k hi (.inr f2)))⟩, h.nf, h.ng, h.fg, h.own, h.ft, h.fo, h.le⟩
end
section
variable {m : Nat → Prop} {w : World} {bk R R2 : Nat} {s : Nat → Option Bl} {V : Nat → Value} {X : Nat → List Value} {d : Int}
theorem All.room (h : All m w bk s V X R d) (h1 : R ≤ R2) (h2 : R2 ≤ 1099511627776) : All m w bk s V X R2 d :=
 ⟨h.sh, h.ty, fun q hq => (h.ks q hq).far (fun _ _ _ => rfl) (fun _ _ e _ _ => e) h1, h.dd, h.v0, h.v1, h.v2, h.v3, h.v8, h2⟩
end
end Go.Proofs.YtihjjkoddphmiaaGreatDoor.bk
