/-
  The room of a statement's lists: what its blocks are for, and what stays (no program here).
-/
import Derived.Test.YtihjjkoddphmiaaDoorMIm3
namespace Go.Proofs.YtihjjkoddphmiaaDoor.img
open Go.RowKit Go.Proofs.YtihjjkoddphmiaaDoorW.PrintWords Go.Proofs.YtihjjkoddphmiaaDoorW.PrintLast Go.Proofs.YtihjjkoddphmiaaDoorW.PrintMore Go.Proofs.YtihjjkoddphmiaaDoor.PImageRound
set_option linter.unusedVariables false
set_option linter.unusedSimpArgs false

/-- What a block is for: the room's own lists, which are written; nothing in particular; or a list that was lent: from place m on it stays. -/
inductive Role where
 | own
 | work
 | fix (m : Nat)

/-- A later world: no block has gone, only the room's own were written. -/
structure Ext (w : World) (ρ : Nat → Role) (w' : World) (ρ' : Nat → Role) : Prop where
 size : w.heap.size ≤ w'.heap.size
 same : ∀ k, k < w.heap.size → ρ' k = ρ k
 keep : ∀ k, k < w.heap.size → ρ k ≠ .own → w'.heap[k]? = w.heap[k]?
/-- A place that stays. -/
def Fx (w : World) (ρ : Nat → Role) (f j : Nat) (v : Value) : Prop := w.cell? ⟨f, j, none⟩ = some v ∧ ∃ m, ρ f = .fix m ∧ m ≤ j
def FxLe (w : World) (ρ : Nat → Role) (w' : World) (ρ' : Nat → Role) : Prop := ∀ f j v, Fx w ρ f j v → Fx w' ρ' f j v
/-- Nothing is said of what is not there yet. -/
def Fresh (w : World) (ρ : Nat → Role) : Prop := ∀ k, w.heap.size ≤ k → ρ k = .work
def up (ρ : Nat → Role) (f : Nat) (x : Role) : Nat → Role := fun k => if k = f then x else ρ k
theorem up_at (ρ : Nat → Role) (f : Nat) (x : Role) : up ρ f x f = x := if_pos rfl
theorem up_ne {ρ : Nat → Role} {f k : Nat} (x : Role) (h : k ≠ f) : up ρ f x k = ρ k := if_neg h

section
variable {w w1 w2 : World} {ρ ρ1 ρ2 : Nat → Role} {f j : Nat} {v : Value}
theorem cell_lt {p : Addr} (h : w.cell? p = some v) : p.block < w.heap.size := World.block_lt_of_cell? w p h
theorem Fx.lt (h : Fx w ρ f j v) : f < w.heap.size := cell_lt (p := ⟨f, j, none⟩) h.1
theorem Fx.not_own (h : Fx w ρ f j v) : ρ f ≠ .own := by
 obtain ⟨_, m, h, _⟩ := h
 rw [h]
 intro e
 cases e
theorem Ext.refl (w : World) (ρ : Nat → Role) : Ext w ρ w ρ := ⟨Nat.le_refl _, fun _ _ => rfl, fun _ _ _ => rfl⟩
theorem Ext.trans (h : Ext w ρ w1 ρ1) (k : Ext w1 ρ1 w2 ρ2) : Ext w ρ w2 ρ2 :=
 ⟨Nat.le_trans h.size k.size, fun i hi => (k.same i (Nat.lt_of_lt_of_le hi h.size)).trans (h.same i hi), fun i hi hr => (k.keep i (Nat.lt_of_lt_of_le hi h.size) (by rw [h.same i hi]; exact hr)).trans (h.keep i hi hr)⟩
theorem Ext.below (h : Below w.heap.size w w1) : Ext w ρ w1 ρ := ⟨h.size, fun _ _ => rfl, fun k hk _ => h.block k hk⟩
theorem Ext.fx (h : Ext w ρ w1 ρ1) : FxLe w ρ w1 ρ1 := by
 intro f j v hv
 have hlt := hv.lt
 refine ⟨(World.cell?_of_block (a := ⟨f, j, none⟩) (h.keep f hlt hv.not_own)).trans hv.1, ?_⟩
 rw [h.same f hlt]
 exact hv.2
/-- A block's use is settled: one that served for nothing in particular. -/
theorem FxLe.up (hw : ρ f = .work) (x : Role) : FxLe w ρ w (up ρ f x) := by
 rintro g j v ⟨hv, m, hm, hj⟩
 refine ⟨hv, m, ?_, hj⟩
 rw [up_ne _ (fun e => by rw [e, hw] at hm; cases hm)]
 exact hm
theorem Ext.up (h : Ext w ρ w1 ρ1) (hf : w.heap.size ≤ f) (x : Role) : Ext w ρ w1 (up ρ1 f x) :=
 ⟨h.size, fun k hk => (up_ne _ (by omega)).trans (h.same k hk), h.keep⟩
/-- The room's own block is written. -/
theorem Ext.set (h : Ext w ρ w1 ρ1) (hf : f < w.heap.size → ρ f = .own) (j : Nat) (u : Value) : Ext w ρ (w1.setCell ⟨f, j, none⟩ u) ρ1 :=
 ⟨by simpa [World.setCell] using h.size, h.same, fun k hk hr => (Below.heap_setCell w1 ⟨f, j, none⟩ u k (fun (e : k = f) => hr (by rw [e]; exact hf (by omega)))).trans (h.keep k hk hr)⟩
theorem Ext.grown (h : Ext w ρ w1 ρ1) {row : Option Nat} (hg : w1.grownBy w2 row) (hf : ∀ k, row = some k → k < w.heap.size → ρ k = .own) : Ext w ρ w2 ρ1 :=
 ⟨Nat.le_trans h.size hg.size, h.same, fun k hk hr => (hg.block k (Nat.lt_of_lt_of_le hk h.size) (fun e => hr (hf k e.symm hk))).trans (h.keep k hk hr)⟩
theorem Fresh.size (h : Fresh w ρ) (hs : w.heap.size ≤ w1.heap.size) : Fresh w1 ρ := fun k hk => h k (by omega)
theorem Fresh.up (h : Fresh w ρ) (hf : f < w.heap.size) (x : Role) : Fresh w (up ρ f x) := fun k hk => (up_ne _ (by omega)).trans (h k hk)
/-- A place that was lent is written. -/
theorem FxLe.put {m i : Nat} (hf : ρ f = .fix m) (hi : i < m) (u : Value) : FxLe w ρ (w.setCell ⟨f, i, none⟩ u) ρ := by
 rintro g j v ⟨hv, m', hm, hj⟩
 refine ⟨?_, m', hm, hj⟩
 by_cases e : g = f
 ·subst e
  rw [hm] at hf
  injection hf with hf
  subst hf
  unfold World.cell? at hv ⊢
  simp only [World.setCell, Array.getElem?_modify, if_true] at hv ⊢
  cases hb : w.heap[g]? with
  | none => rw [hb] at hv; cases hv
  | some o =>
   rw [hb] at hv
   cases o with
   | cells c t fz =>
    simp only [Option.map_some, Option.isSome_none, Bool.false_eq_true, if_false] at hv ⊢
    rw [Array.getElem?_setIfInBounds, if_neg (by omega)]
    exact hv
   | _ => cases hv
 ·exact (World.cell?_of_block (a := ⟨g, j, none⟩) (Below.heap_setCell w ⟨f, i, none⟩ u g e)).trans hv
end

/-- The marks of a list of lists, seen from an element: what is lent, with marks behind it. -/
abbrev Mk := World → (Nat → Role) → Value → Prop
def Stays (M : Mk) : Prop := ∀ {w w' : World} {ρ ρ' : Nat → Role} {u : Value}, FxLe w ρ w' ρ' → M w ρ u → M w' ρ' u
def mk (a : Int) (j : Nat) : Int := if j % 2 = 0 then a else a - 1
def mkb (j : Nat) : Int := if j % 2 = 0 then 165 else 90
def mkw (j : Nat) : Int := if j % 2 = 0 then 7701 else 7702
/-- Behind numbers. -/
def MNum (k : IntKind) (m : Nat → Int) (cnt : Nat) : Mk := fun w ρ u => ∃ f n c, u = .slice (some ⟨f, 0, none⟩) n c ∧ cnt ≤ n ∧ n ≤ 1000000000 ∧ n ≤ c ∧ ∀ j, j < cnt → Fx w ρ f (n - cnt + j) (.int k (m j))
/-- Behind lists of numbers. -/
def MLists : Mk := fun w ρ u => ∃ f n c, u = .slice (some ⟨f, 0, none⟩) n c ∧ 8 ≤ n ∧ n ≤ 1000000000 ∧ n ≤ c ∧ ∀ j, j < 8 → ∃ p c', Fx w ρ f (n - 8 + j) (.slice (some ⟨p, 0, none⟩) 1 c') ∧ 1 ≤ c' ∧ Fx w ρ p 0 (.int .i64 (mk (-7701) j))
def MFrames : Mk := fun w ρ u => ∃ f n c, u = .slice (some ⟨f, 0, none⟩) n c ∧ 8 ≤ n ∧ n ≤ 1000000000 ∧ n ≤ c ∧ ∀ j, j < 8 → ∃ p c' q c'', Fx w ρ f (n - 8 + j) (.slice (some ⟨p, 0, none⟩) 1 c') ∧ 1 ≤ c' ∧ Fx w ρ p 0 (.slice (some ⟨q, 0, none⟩) 1 c'') ∧ 1 ≤ c'' ∧ Fx w ρ q 0 (.int .i64 (mk (-7701) j))
def markO (j : Nat) : List Value := [.int .u64 0, .int .i64 (mk (-7701) j), .int .i64 0, .slice none 0 0, .slice none 0 0]
def MObjs : Mk := fun w ρ u => ∃ f n c, u = .slice (some ⟨f, 0, none⟩) n c ∧ 8 ≤ n ∧ n ≤ 1000000000 ∧ n ≤ c ∧ ∀ j, j < 8 → ∀ i x, (markO j)[i]? = some x → Fx w ρ f ((n - 8 + j) * 5 + i) x
theorem MNum.stays (k : IntKind) (m : Nat → Int) (cnt : Nat) : Stays (MNum k m cnt) := by
 rintro w w' ρ ρ' u h ⟨f, n, c, e, h1, h2, h3, h4⟩
 exact ⟨f, n, c, e, h1, h2, h3, fun j hj => h _ _ _ (h4 j hj)⟩
theorem MLists.stays : Stays MLists := by
 rintro w w' ρ ρ' u h ⟨f, n, c, e, h1, h2, h3, h4⟩
 refine ⟨f, n, c, e, h1, h2, h3, fun j hj => ?_⟩
 obtain ⟨p, c', h5, h6, h7⟩ := h4 j hj
 exact ⟨p, c', h _ _ _ h5, h6, h _ _ _ h7⟩
theorem MFrames.stays : Stays MFrames := by
 rintro w w' ρ ρ' u h ⟨f, n, c, e, h1, h2, h3, h4⟩
 refine ⟨f, n, c, e, h1, h2, h3, fun j hj => ?_⟩
 obtain ⟨p, c', q, c'', h5, h6, h7, h8, h9⟩ := h4 j hj
 exact ⟨p, c', q, c'', h _ _ _ h5, h6, h _ _ _ h7, h8, h _ _ _ h9⟩
theorem MObjs.stays : Stays MObjs := by
 rintro w w' ρ ρ' u h ⟨f, n, c, e, h1, h2, h3, h4⟩
 exact ⟨f, n, c, e, h1, h2, h3, fun j hj i x hx => h _ _ _ (h4 j hj i x hx)⟩

/-- Field i of the room: a list of at most K lists, each with its marks. -/
def Fld (w : World) (ρ : Nat → Role) (base : Nat) (C : Array Value) (i e : Nat) (M : Mk) (K : Nat) : Prop :=
 ∃ v vals, C[i]? = some v ∧ w.ownsRow base e 1 v vals.length vals ∧ vals.length ≤ K ∧ (∀ k, v.ownBlock = some k → ρ k = .own) ∧ ∀ u ∈ vals, M w ρ u
section
variable {w w1 w2 : World} {ρ ρ1 ρ2 : Nat → Role} {base i i' e e' K K' r t : Nat} {C C' cs : Array Value} {M : Mk} {v v' u : Value}
theorem Fld.more (h : Fld w ρ base C i e M K) (hK : K ≤ K') : Fld w ρ base C i e M K' := by
 obtain ⟨v, vals, h1, h2, h3, h4, h5⟩ := h
 exact ⟨v, vals, h1, h2, Nat.le_trans h3 hK, h4, h5⟩
/-- Where only other blocks turn. -/
theorem Fld.step (h : Fld w ρ base C i e M K) (hM : Stays M) (hC : C'[i]? = C[i]?) (hm : ∀ k, (∃ cells, w.heap[k]? = some (.cells cells e (0, 0))) → ρ k = .own → w1.heap[k]? = w.heap[k]?) (hρ : ∀ k, k < w.heap.size → ρ k = .own → ρ1 k = .own) (hx : FxLe w ρ w1 ρ1) : Fld w1 ρ1 base C' i e M K := by
 obtain ⟨v, vals, h1, h2, h3, h4, h5⟩ := h
 exact ⟨v, vals, hC.trans h1, own_move h2 (fun k hk => hm k (own_typed h2 k hk) (h4 k hk)), h3, fun k hk => hρ k (own_lt h2 k hk) (h4 k hk), fun u hu => hM hx (h5 u hu)⟩

/-- The room's fields that are in use: number, type of the elements, what is said of an element. -/
def flds : List (Nat × Nat × Mk) := [(0, 47, MNum .u8 mkb 600), (1, 24, MNum .i64 (mk (-7701)) 40), (2, 60, MNum .u64 mkw 40), (5, 31, MLists), (6, 23, MFrames), (7, 22, MObjs)]
theorem flds_stays {x : Nat × Nat × Mk} (h : x ∈ flds) : Stays x.2.2 := by
 simp only [flds, List.mem_cons, List.not_mem_nil, or_false] at h
 rcases h with rfl | rfl | rfl | rfl | rfl | rfl
 ·exact MNum.stays _ _ _
 ·exact MNum.stays _ _ _
 ·exact MNum.stays _ _ _
 ·exact MLists.stays
 ·exact MFrames.stays
 ·exact MObjs.stays
theorem flds_type {x : Nat × Nat × Mk} (h : x ∈ flds) : x.2.1 ≠ 38 ∧ x.1 ≠ 3 ∧ x.1 ≠ 4 := by
 simp only [flds, List.mem_cons, List.not_mem_nil, or_false] at h
 rcases h with rfl | rfl | rfl | rfl | rfl | rfl <;> decide
theorem flds_ne {x y : Nat × Nat × Mk} (h : x ∈ flds) (k : y ∈ flds) : (x.1 = y.1 ∧ x = y) ∨ (x.1 ≠ y.1 ∧ x.2.1 ≠ y.2.1) := by
 simp only [flds, List.mem_cons, List.not_mem_nil, or_false] at h k
 rcases h with rfl | rfl | rfl | rfl | rfl | rfl <;> rcases k with rfl | rfl | rfl | rfl | rfl | rfl <;> first | exact .inl ⟨rfl, rfl⟩ | exact .inr (by decide)

/-- The room: at most K lists of each kind, each with its marks; block r. -/
structure Rm (w : World) (ρ : Nat → Role) (base r : Nat) (C : Array Value) (K : Nat) : Prop where
 blk : w.heap[r]? = some (.cells C 38 (0, 0))
 low : base ≤ r
 own : ρ r = .own
 fresh : Fresh w ρ
 sz : C.size = 8
 f3 : C[3]? = some (.slice none 0 0)
 f4 : C[4]? = some (.slice none 0 0)
 fixed : ∀ f m, ρ f = .fix m → base ≤ f
 fld : ∀ x ∈ flds, Fld w ρ base C x.1 x.2.1 x.2.2 K

theorem Rm.lt (h : Rm w ρ base r C K) : r < w.heap.size := blk_lt h.blk
theorem Rm.more (h : Rm w ρ base r C K) (hK : K ≤ K') : Rm w ρ base r C K' := ⟨h.blk, h.low, h.own, h.fresh, h.sz, h.f3, h.f4, h.fixed, fun x hx => (h.fld x hx).more hK⟩
theorem Rm.below (h : Rm w ρ base r C K) (hb : Below w.heap.size w w1) : Rm w1 ρ base r C K :=
 ⟨blk_below h.blk hb, h.low, h.own, h.fresh.size hb.size, h.sz, h.f3, h.f4, h.fixed, fun x hx => (h.fld x hx).step (flds_stays hx) rfl (fun k ⟨_, hk⟩ _ => hb.block k (blk_lt hk)) (fun _ _ h => h) (Ext.below hb).fx⟩
/-- A block's use is settled. -/
theorem Rm.settle {f : Nat} (h : Rm w ρ base r C K) (hf : ρ f = .work) (hlt : f < w.heap.size) (hlow : base ≤ f) (x : Role) : Rm w (up ρ f x) base r C K := by
 have hr : ∀ k, ρ k = .own → up ρ f x k = .own := fun k hk => by
  rw [up_ne _ (fun e => by rw [e, hf] at hk; cases hk)]
  exact hk
 refine ⟨h.blk, h.low, hr _ h.own, h.fresh.up hlt x, h.sz, h.f3, h.f4, fun g m hg => ?_, fun y hy => (h.fld y hy).step (flds_stays hy) rfl (fun k _ _ => rfl) (fun k _ => hr k) (FxLe.up hf x)⟩
 by_cases e : g = f
 ·rw [e]; exact hlow
 ·rw [up_ne _ e] at hg; exact h.fixed g m hg
/-- A place that was lent is written: the room is as it was. -/
theorem Rm.put {f m i : Nat} (h : Rm w ρ base r C K) (hf : ρ f = .fix m) (hi : i < m) (u : Value) : Rm (w.setCell ⟨f, i, none⟩ u) ρ base r C K := by
 have hn : ∀ k, ρ k = .own → k ≠ f := fun k hk e => by rw [e, hf] at hk; cases hk
 exact ⟨blk_far h.blk (hn r h.own) u, h.low, h.own, h.fresh.size (by simp [World.setCell]), h.sz, h.f3, h.f4, h.fixed, fun x hx => (h.fld x hx).step (flds_stays hx) rfl (fun k _ hk => Below.heap_setCell w ⟨f, i, none⟩ u k (hn k hk)) (fun _ _ h => h) (FxLe.put hf hi u)⟩
/-- A list more: it is laid behind those of its kind. -/
theorem Rm.lend {M : Mk} {vals : List Value} (h : Rm w ρ base r C K) (hm : (i, e, M) ∈ flds) (h1 : C[i]? = some v) (h2 : w.ownsRow base e 1 v vals.length vals) (h3 : vals.length ≤ K) (h4 : ∀ k, v.ownBlock = some k → ρ k = .own) (h5 : ∀ x ∈ vals, M w ρ x)
  (hu : M w ρ u) (hg : w.grownBy w1 v.ownBlock) (ho : w1.ownsRow base e 1 v' (vals.length + 1) (vals ++ [u])) (hat : v'.ownBlock = v.ownBlock ∨ ∃ b, v'.ownBlock = some b ∧ w.heap.size ≤ b) :
  ∃ ρ', Rm (w1.setCell ⟨r, i, none⟩ v') ρ' base r (C.setIfInBounds i v') (K + 1) ∧ Ext w ρ (w1.setCell ⟨r, i, none⟩ v') ρ' := by
 obtain ⟨g, cap, rfl, -, -⟩ := ho.form (by omega)
 have hgl : g < w1.heap.size := own_lt ho g rfl
 have hro : ∀ k, v.ownBlock = some k → k < w.heap.size → ρ k = .own := fun k hk _ => h4 k hk
 have hρg : g < w.heap.size → ρ g = .own := by
  intro hlt
  rcases hat with hat | ⟨b, hb, hle⟩
  ·exact h4 g hat.symm
  ·have : g = b := by simpa [Value.ownBlock] using hb
   omega
 have hE : Ext w ρ (w1.setCell ⟨r, i, none⟩ (.slice (some ⟨g, 0, none⟩) (vals.length + 1) cap)) (up ρ g .own) := by
  have h0 := ((Ext.refl w ρ).grown hg hro).set (f := r) (fun _ => h.own) i (.slice (some ⟨g, 0, none⟩) (vals.length + 1) cap)
  exact ⟨h0.size, fun k hk => by
   by_cases e : k = g
   ·rw [e, up_at]
    exact (hρg (by omega)).symm
   ·rw [up_ne _ e], h0.keep⟩
 have hb1 : w1.heap[r]? = some (.cells C 38 (0, 0)) := by
  refine blk_grown h.blk hg (fun e => ?_)
  have h9 := own_typed h2 r e.symm
  obtain ⟨cells, h9⟩ := h9
  rw [h.blk] at h9
  injection h9 with h9
  injection h9 with _ h9
  exact (flds_type hm).1 h9.symm
 have hown : ∀ k, ρ k = .own → up ρ g .own k = .own := fun k hk => by
  by_cases e : k = g
  ·rw [e, up_at]
  ·rw [up_ne _ e]; exact hk
 have hi : i < C.size := (Array.getElem?_eq_some_iff.1 h1).1
 have hoth : ∀ j, j ≠ i → (C.setIfInBounds i (.slice (some ⟨g, 0, none⟩) (vals.length + 1) cap))[j]? = C[j]? := fun j hj => by
  rw [Array.getElem?_setIfInBounds, if_neg (fun e => hj e.symm)]
 refine ⟨up ρ g .own, ⟨blk_set hb1 i _, h.low, hown r h.own, ?_, by simpa using h.sz, (hoth 3 (fun e => (flds_type hm).2.1 e.symm)).trans h.f3, (hoth 4 (fun e => (flds_type hm).2.2 e.symm)).trans h.f4, fun q m hq => ?_, fun x hx => ?_⟩, hE⟩
 ·exact (h.fresh.size hE.size).up (by simpa [World.setCell] using hgl) _
 ·by_cases e : q = g
  ·rw [e, up_at] at hq; cases hq
  ·rw [up_ne _ e] at hq; exact h.fixed q m hq
 ·rcases flds_ne hx hm with ⟨-, rfl⟩ | ⟨ne1, ne2⟩
  ·refine ⟨.slice (some ⟨g, 0, none⟩) (vals.length + 1) cap, vals ++ [u], by simp [hi], ?_, by simp; omega, fun k hk => ?_, fun y hy => ?_⟩
   ·rw [List.length_append]
    exact own_setCell (p := ⟨r, i, none⟩) ho (own_ne ho hb1 (flds_type hm).1) _
   ·have : g = k := by simpa [Value.ownBlock] using hk
    rw [← this, up_at]
   ·rcases List.mem_append.1 hy with hy | hy
    ·exact flds_stays hm hE.fx (h5 y hy)
    ·rw [List.mem_singleton.1 hy]
     exact flds_stays hm hE.fx hu
  ·refine ((h.fld x hx).step (flds_stays hx) (hoth _ ne1) (fun k hk hko => ?_) (fun k _ => hown k) hE.fx).more (by omega)
   obtain ⟨cells, hk⟩ := hk
   rw [Below.heap_setCell w1 ⟨r, i, none⟩ _ k (blk_ne hk h.blk (flds_type hx).1)]
   refine hg.block k (blk_lt hk) (fun e2 => ?_)
   obtain ⟨cells', hk'⟩ := own_typed h2 k e2.symm
   rw [hk] at hk'
   injection hk' with hk'
   injection hk' with _ hk'
   exact ne2 hk'
end
/-- What a copy leaves: the room, one list more or several, and the copy. -/
def Lends {α : Type} (P : World → (Nat → Role) → Value → α → Prop) (x : α) (w : World) (ρ : Nat → Role) (base r K : Nat) (e : Ending) (w' : World) : Prop :=
 ∃ ρ' C' v, e = .returned v ∧ Rm w' ρ' base r C' K ∧ Ext w ρ w' ρ' ∧ Below base w w' ∧ P w' ρ' v x
end Go.Proofs.YtihjjkoddphmiaaDoor.img
