/-
  Rows whose elements' blocks lie apart: each element's in an interval of its own.
-/
import Derived.Test.YtihjjkoddphmiaaGreatDoorNIm1
namespace Go.Proofs.YtihjjkoddphmiaaGreatDoor.img
open Go.RowKit Go.Proofs.YtihjjkoddphmiaaGreatDoorW.PrintWords Go.Proofs.YtihjjkoddphmiaaGreatDoorW.PrintMore
set_option linter.unusedVariables false
set_option linter.unusedSimpArgs false

/-- An element and the interval of its blocks. -/
def tag {α : Type} (d : Kd α) : Kd (α × Nat × Nat) where
 sz := d.sz
 E := d.E
 K := fun w x cs => d.K w x.1 cs
 M := fun w base ok x cs => d.M w base (fun k => ok k ∧ x.2.1 ≤ k ∧ k < x.2.2) x.1 cs
 K_len := fun h => d.K_len h
 K_one := fun h => d.K_one h
 K_below := fun hb h => d.K_below hb h
 K_of_M := fun h => d.K_of_M h
 M_mono := fun hok h => d.M_mono (fun k hk => ⟨hok k hk.1, hk.2⟩) h
 M_bound := fun h => d.M_mono (fun k hk => ⟨⟨hk.1.1, hk.2⟩, hk.1.2⟩) (d.M_bound h)
 M_move := fun hm h => d.M_move (fun k hk => hm k hk.1) h
 M_lower := fun hb h => d.M_lower hb h
/-- The intervals lie one behind the other, below N. -/
def Inc {α : Type} (N : Nat) (l : List (α × Nat × Nat)) : Prop := l.Pairwise (fun a b => a.2.2 ≤ b.2.1) ∧ ∀ a ∈ l, a.2.2 ≤ N
def Rsp {α : Type} (d : Kd α) (e : Nat) (w : World) (base : Nat) (ok : Nat → Prop) (v : Value) (xs : List α) (N : Nat) : Prop := ∃ l : List (α × Nat × Nat), l.map Prod.fst = xs ∧ Inc N l ∧ (tag d).R e w base ok v l
section
variable {α : Type} {d : Kd α} {e : Nat} {w w1 : World} {base base' N N' : Nat} {ok ok' : Nat → Prop} {v : Value} {xs : List α}
theorem reps_map {R : α → List Value → Prop} {sz : Nat} {l : List (α × Nat × Nat)} {cs : List Value} (h : Reps (fun x cs => R x.1 cs) sz l cs) : Reps R sz (l.map Prod.fst) cs :=
 ⟨by simpa using h.1, fun j p hj => by
  rw [List.getElem?_map] at hj
  obtain ⟨a, ha, rfl⟩ := Option.map_eq_some_iff.1 hj
  exact h.2 j a ha⟩
theorem Rsp.toR (h : Rsp d e w base ok v xs N) : d.R e w base ok v xs := by
 obtain ⟨l, rfl, -, h0, inner, ho, hr⟩ := h
 refine ⟨h0, inner, by rw [List.length_map]; exact ho, reps_map ?_⟩
 exact hr.imp_ (fun x cs hx => d.M_mono (fun k hk => hk.1) hx)
theorem Rsp_slice {α : Type} {d : Kd α} {e : Nat} {w : World} {base N : Nat} {ok : Nat → Prop} {v : Value} {xs : List α} (h : Rsp d e w base ok v xs N) : ∃ A c, v = .slice A xs.length c := Kd.R_slice h.toR
theorem Rsp_nil (d : Kd α) (e : Nat) (w : World) (base : Nat) (ok : Nat → Prop) (N : Nat) : Rsp d e w base ok (.slice none 0 0) [] N := ⟨[], rfl, ⟨List.Pairwise.nil, fun a ha => by simp at ha⟩, Kd.R_nil _ _ _ _ _⟩
theorem Rsp.mono (h : Rsp d e w base ok v xs N) (hok : ∀ k, ok k → ok' k) (hN : N ≤ N') : Rsp d e w base ok' v xs N' := by
 obtain ⟨l, h1, h2, h3⟩ := h
 exact ⟨l, h1, ⟨h2.1, fun a ha => Nat.le_trans (h2.2 a ha) hN⟩, Kd.R_mono h3 hok⟩
theorem Rsp.bound (h : Rsp d e w base ok v xs N) : Rsp d e w base (fun k => ok k ∧ base ≤ k ∧ k < w.heap.size ∧ ∃ q, q ∈ e :: d.E ∧ ∃ cells, w.heap[k]? = some (.cells cells q (0, 0))) v xs N := by
 obtain ⟨l, h1, h2, h3⟩ := h
 exact ⟨l, h1, h2, Kd.R_bound h3⟩
theorem Rsp.kept {S : Nat → Prop} (h : Rsp d e w base ok v xs N) (hk : Kept w w1 S) (hne : ∀ k, ok k → ¬ S k) : Rsp d e w1 base ok v xs N := by
 obtain ⟨l, h1, h2, h3⟩ := h
 exact ⟨l, h1, h2, Kd.R_kept h3 hk hne⟩
theorem Rsp.below (h : Rsp d e w base ok v xs N) (hb : Below w.heap.size w w1) : Rsp d e w1 base ok v xs N := by
 obtain ⟨l, h1, h2, h3⟩ := h
 exact ⟨l, h1, h2, Kd.R_below h3 hb⟩
theorem Rsp.lower (h : Rsp d e w base ok v xs N) (hb : base' ≤ base) : Rsp d e w base' ok v xs N := by
 obtain ⟨l, h1, h2, h3⟩ := h
 exact ⟨l, h1, h2, Kd.R_lower h3 hb⟩
theorem Rsp.set (h : Rsp d e w base ok v xs N) {g t : Nat} {cells : Array Value} (hb : w.heap[g]? = some (.cells cells t (0, 0))) (ht : ∀ q, q ∈ e :: d.E → q ≠ t) (j : Nat) (u : Value) : Rsp d e (w.setCell ⟨g, j, none⟩ u) base ok v xs N := by
 obtain ⟨l, h1, h2, h3⟩ := h
 exact ⟨l, h1, h2, Kd.R_set h3 hb ht j u⟩
end
/-- A slice of such elements. -/
def fsl {α : Type} (e : Nat) (d : Kd α) : Kd (List α) where
 sz := 1
 E := e :: d.E
 K := fun w xs cs => ∃ A c, cs = [.slice A xs.length c] ∧ xs.length ≤ c ∧ d.C w A xs.length xs
 M := fun w base ok xs cs => ∃ v N, cs = [v] ∧ Rsp d e w base ok v xs N
 K_len := by
  rintro w x cs ⟨A, c, rfl, _⟩
  rfl
 K_one := by
  rintro w x cs ⟨A, c, rfl, _⟩ u hu
  rw [List.mem_singleton.1 hu]
  rfl
 K_below := by
  rintro w w1 x cs hb ⟨A, c, rfl, hl, hr⟩
  exact ⟨A, c, rfl, hl, Kd.C_below hr hb⟩
 K_of_M := by
  rintro w base ok x cs ⟨v, N, rfl, h⟩
  obtain ⟨A, c, rfl, hl, hr⟩ := Kd.R_reads h.toR
  exact ⟨A, c, rfl, hl, hr⟩
 M_mono := by
  rintro w base ok ok' x cs hok ⟨v, N, rfl, h⟩
  exact ⟨v, N, rfl, h.mono hok (Nat.le_refl _)⟩
 M_bound := by
  rintro w base ok x cs ⟨v, N, rfl, h⟩
  exact ⟨v, N, rfl, h.bound⟩
 M_move := by
  rintro w w1 base ok x cs hm ⟨v, N, rfl, l, h1, h2, h3⟩
  exact ⟨v, N, rfl, l, h1, h2, Kd.R_move h3 hm⟩
 M_lower := by
  rintro w base base' ok x cs hb ⟨v, N, rfl, h⟩
  exact ⟨v, N, rfl, h.lower hb⟩
theorem R_fsl {α : Type} {d : Kd α} {e f base : Nat} {w : World} {ok : Nat → Prop} {v : Value} {xs : List (List α)} (h : (fsl e d).R f w base ok v xs) : (Kd.slice e d).R f w base ok v xs := by
 obtain ⟨h0, inner, ho, hr⟩ := h
 refine ⟨h0, inner, ho, hr.imp_ (fun x cs hx => ?_)⟩
 obtain ⟨v, N, rfl, hx⟩ := hx
 exact ⟨v, rfl, hx.toR⟩
section
variable {P : Program} {ops : Array Oper} {o : Oper} {a : Act} {Q : Exit → Act → World → Prop} {Kc : Act → World → Prop} {α : Type}
theorem Rsp_append_step (d : Kd α) {w0 W : World} (base : Nat) (hw : Region.wanted o (yielded ops a.tmps) = true) (s x : Operand) (t e : TypeId) (z : Value) (bytes : Nat)
  (ho : o.op = .call { callee := .builtin .append, args := #[s, x], argTypes := #[t, t] })
  (ht : P.underlying t = some (.slice e)) (hinfo : (P.info? e).map (fun i => (i.zero, i.size, i.bytes)) = some (some z, d.sz, bytes)) (hz : z.cells.size = d.sz) (hs0 : 0 < d.sz) (hb0 : 0 < bytes)
  (v : Value) (xs : List α) (p : α) (cs : List Value) (ok : Nat → Prop) (N : Nat) (hs : a.eval s = v) (hx : a.eval x = .slice (some ⟨W.heap.size, 0, none⟩) 1 1) (hp : d.M W base (fun k => N ≤ k) p cs) (hokp : ∀ k, N ≤ k → ok k ∧ some k ≠ v.ownBlock) (hfresh : ∀ k, W.heap.size ≤ k → ok k)
  (HO : Rsp d e W base ok v xs N) (HB : Below base w0 W) (hbase : base ≤ W.heap.size) (hl : (xs.length + 1) * bytes ≤ 140737488355328)
  (h : ∀ v1 w1, Rsp d e w1 base ok v1 (xs ++ [p]) W.heap.size → Below base w0 w1 → W.grownBy w1 v.ownBlock → (v1.ownBlock = v.ownBlock ∨ ∃ b, v1.ownBlock = some b ∧ W.heap.size ≤ b) → Kc (a.put o.dst v1) w1) (hN : N ≤ W.heap.size) :
  if Region.wanted o (yielded ops a.tmps) = true then Oper.wp P o a (W.alloc (.cells cs.toArray e)) Kc Q else Kc (a.put o.dst undef) (W.alloc (.cells cs.toArray e)) := by
 obtain ⟨l, rfl, h2, h3⟩ := HO
 refine Kd.R_append_step (tag d) (w0 := w0) base hw s x t e z bytes ho ht hinfo hz hs0 hb0 v l (p, N, W.heap.size) cs ok (fun k => N ≤ k ∧ k < W.heap.size) hs hx ?_ (fun k hk => hokp k hk.1) hfresh h3 HB hbase (by simpa using hl) ?_
 ·exact d.M_mono (fun k hk => ⟨⟨hk.1, hk.2.2.1⟩, hk.1, hk.2.2.1⟩) (d.M_bound hp)
 ·intro v1 w1 k1 k2 k3 k4
  refine h v1 w1 ⟨l ++ [(p, N, W.heap.size)], by simp, ⟨?_, fun a ha => ?_⟩, k1⟩ k2 k3 k4
  ·refine List.pairwise_append.2 ⟨h2.1, List.pairwise_singleton _ _, fun a ha b hb => ?_⟩
   rw [List.mem_singleton.1 hb]; exact h2.2 a ha
  ·rcases List.mem_append.1 ha with ha | ha
   ·exact Nat.le_trans (h2.2 a ha) hN
   ·rw [List.mem_singleton.1 ha]; exact Nat.le_refl _
end
end Go.Proofs.YtihjjkoddphmiaaGreatDoor.img
