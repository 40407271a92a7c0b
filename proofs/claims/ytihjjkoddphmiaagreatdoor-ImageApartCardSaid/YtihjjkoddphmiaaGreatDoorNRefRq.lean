/-
  The world of middenref16.Read: its text, its graph, its result.
-/
import Derived.Test.YtihjjkoddphmiaaGreatDoorNRefTc
namespace Go.Proofs.YtihjjkoddphmiaaGreatDoor.img
open Go.RowKit Go.Proofs.YtihjjkoddphmiaaGreatDoorW.PrintWords Go.Proofs.YtihjjkoddphmiaaGreatDoorW.PrintLast Go.Proofs.YtihjjkoddphmiaaGreatDoorW.PrintMore Go.Proofs.YtihjjkoddphmiaaGreatDoor.PImageApart
set_option linter.unusedVariables false
set_option linter.unusedSimpArgs false

abbrev kS : Kd (List (List Int)) := Kd.slice 25 (Kd.slice 3 (Kd.int .i64))
structure Rq (w : World) (b : List Int) (g gg : Nat) (a e pl : Int) (u0 u1 u2 u3 u4 : Value) (nx : Int) (O : List S66) (S : List (List (List Int))) (H R Q : List Int) (wr : World) : Prop where
 tx : IsS69 w wr g b a e pl
 bel : Below w.heap.size w wr
 res : wr.heap[w.heap.size]? = some (.cells #[.slice none 0 0, .slice none 0 0, .slice none 0 0, .slice none 0 0, .slice none 0 0, .int .u64 0] 44 (0, 0))
 blk : wr.heap[gg]? = some (.cells #[u0, u1, u2, u3, u4, .int .u64 nx] 44 (0, 0))
 ge : w.heap.size < gg
 r0 : k66.R 66 wr w.heap.size (fun _ => True) u0 O
 r1 : kS.R 26 wr w.heap.size (fun _ => True) u1 S
 r2 : (Kd.int .i64).R 3 wr w.heap.size (fun _ => True) u2 H
 r3 : (Kd.int .i64).R 3 wr w.heap.size (fun _ => True) u3 R
 r4 : (Kd.int .i64).R 3 wr w.heap.size (fun _ => True) u4 Q
section
variable {w wr w2 : World} {b : List Int} {g gg : Nat} {a e pl : Int} {u0 u1 u2 u3 u4 : Value} {nx : Int} {O : List S66} {S : List (List (List Int))} {H R Q : List Int}
theorem row_ts {α : Type} {d : Kd α} {t : TypeId} {base : Nat} {v : Value} {xs : List α} (h : d.R t wr base (fun _ => True) v xs) (hI : IsS69 w wr g b a e pl) (hk : KeepBut wr w2 g none) (ht : ∀ q, q ∈ t :: d.E → q ≠ 69) : d.R t w2 base (fun _ => True) v xs :=
 Kd.R_mono (Kd.R_keep (IsS69.apart hI h ht) hk (fun k hk => hk.2)) (fun _ _ => trivial)
theorem Rq.ts {a' e' pl' : Int} (h : Rq w b g gg a e pl u0 u1 u2 u3 u4 nx O S H R Q wr) (t : Ts w wr g b a' e' pl' w2) : Rq w b g gg a' e' pl' u0 u1 u2 u3 u4 nx O S H R Q w2 := by
 have hne := IsS69.ne_blk h.tx h.blk (by decide)
 have hnr := IsS69.ne_blk h.tx h.res (by decide)
 exact ⟨t.tx, t.bel, t.keep.blk h.res (fun e => hnr e.symm) (by simp), t.keep.blk h.blk (fun e => hne e.symm) (by simp), h.ge, row_ts h.r0 h.tx t.keep (by decide), row_ts h.r1 h.tx t.keep (by decide), row_ts h.r2 h.tx t.keep (by decide), row_ts h.r3 h.tx t.keep (by decide), row_ts h.r4 h.tx t.keep (by decide)⟩
theorem Rq.below (h : Rq w b g gg a e pl u0 u1 u2 u3 u4 nx O S H R Q wr) (hb : Below wr.heap.size wr w2) : Rq w b g gg a e pl u0 u1 u2 u3 u4 nx O S H R Q w2 :=
 ⟨h.tx.below hb, below_step h.bel hb, blk_below h.res hb, blk_below h.blk hb, h.ge, Kd.R_below h.r0 hb, Kd.R_below h.r1 hb, Kd.R_below h.r2 hb, Kd.R_below h.r3 hb, Kd.R_below h.r4 hb⟩
theorem row_set {α : Type} {d : Kd α} {t : TypeId} {base : Nat} {v : Value} {xs : List α} {cs : Array Value} (h : d.R t wr base (fun _ => True) v xs) (hb : wr.heap[gg]? = some (.cells cs 44 (0, 0))) (ht : ∀ q, q ∈ t :: d.E → q ≠ 44) (j : Nat) (u : Value) : d.R t (wr.setCell ⟨gg, j, none⟩ u) base (fun _ => True) v xs :=
 Kd.R_mono (Kd.R_far (Kd.R_types h hb ht) (fun k hk => hk.2) u) (fun _ _ => trivial)
theorem Rq.set5 (h : Rq w b g gg a e pl u0 u1 u2 u3 u4 nx O S H R Q wr) (x : Int) : Rq w b g gg a e pl u0 u1 u2 u3 u4 x O S H R Q (wr.setCell ⟨gg, 5, none⟩ (.int .u64 x)) :=
 ⟨h.tx.far (IsS69.ne_blk h.tx h.blk (by decide)) _, below_set h.bel (Nat.le_of_lt h.ge) , blk_far h.res (by have := h.ge; show w.heap.size ≠ gg; omega) _, by simpa using blk_set h.blk 5 (.int .u64 x), h.ge, row_set h.r0 h.blk (by decide) _ _, row_set h.r1 h.blk (by decide) _ _, row_set h.r2 h.blk (by decide) _ _, row_set h.r3 h.blk (by decide) _ _, row_set h.r4 h.blk (by decide) _ _⟩
theorem row_grown {α β : Type} {d : Kd α} {d' : Kd β} {t t' : TypeId} {base base' : Nat} {v v' : Value} {xs : List α} {ys : List β} (h : d.R t wr base (fun _ => True) v xs) (h' : d'.R t' wr base' (fun _ => True) v' ys) (hg : wr.grownBy w2 v'.ownBlock) (ht : ∀ q, q ∈ t :: d.E → q ≠ t') : d.R t w2 base (fun _ => True) v xs :=
 Kd.R_mono (Kd.R_grown (Kd.R_apartR h h' ht) hg (fun k hk => hk.2)) (fun _ _ => trivial)
theorem Rq.set2 {v : Value} {l : List Int} (h : Rq w b g gg a e pl u0 u1 u2 u3 u4 nx O S H R Q wr) (hr : (Kd.int .i64).R 3 wr w.heap.size (fun _ => True) v l) : Rq w b g gg a e pl u0 u1 v u3 u4 nx O S l R Q (wr.setCell ⟨gg, 2, none⟩ v) :=
 ⟨h.tx.far (IsS69.ne_blk h.tx h.blk (by decide)) _, below_set h.bel (Nat.le_of_lt h.ge), blk_far h.res (by have := h.ge; show w.heap.size ≠ gg; omega) _, by simpa using blk_set h.blk 2 v, h.ge, row_set h.r0 h.blk (by decide) _ _, row_set h.r1 h.blk (by decide) _ _, row_set hr h.blk (by decide) _ _, row_set h.r3 h.blk (by decide) _ _, row_set h.r4 h.blk (by decide) _ _⟩
theorem Rq.set3 {v : Value} {l : List Int} (h : Rq w b g gg a e pl u0 u1 u2 u3 u4 nx O S H R Q wr) (hr : (Kd.int .i64).R 3 wr w.heap.size (fun _ => True) v l) : Rq w b g gg a e pl u0 u1 u2 v u4 nx O S H l Q (wr.setCell ⟨gg, 3, none⟩ v) :=
 ⟨h.tx.far (IsS69.ne_blk h.tx h.blk (by decide)) _, below_set h.bel (Nat.le_of_lt h.ge), blk_far h.res (by have := h.ge; show w.heap.size ≠ gg; omega) _, by simpa using blk_set h.blk 3 v, h.ge, row_set h.r0 h.blk (by decide) _ _, row_set h.r1 h.blk (by decide) _ _, row_set h.r2 h.blk (by decide) _ _, row_set hr h.blk (by decide) _ _, row_set h.r4 h.blk (by decide) _ _⟩
theorem Rq.set4 {v : Value} {l : List Int} (h : Rq w b g gg a e pl u0 u1 u2 u3 u4 nx O S H R Q wr) (hr : (Kd.int .i64).R 3 wr w.heap.size (fun _ => True) v l) : Rq w b g gg a e pl u0 u1 u2 u3 v nx O S H R l (wr.setCell ⟨gg, 4, none⟩ v) :=
 ⟨h.tx.far (IsS69.ne_blk h.tx h.blk (by decide)) _, below_set h.bel (Nat.le_of_lt h.ge), blk_far h.res (by have := h.ge; show w.heap.size ≠ gg; omega) _, by simpa using blk_set h.blk 4 v, h.ge, row_set h.r0 h.blk (by decide) _ _, row_set h.r1 h.blk (by decide) _ _, row_set h.r2 h.blk (by decide) _ _, row_set h.r3 h.blk (by decide) _ _, row_set hr h.blk (by decide) _ _⟩
theorem Rq.push0 {W : World} {v : Value} {o : S66} (h : Rq w b g gg a e pl u0 u1 u2 u3 u4 nx O S H R Q wr) (hb : Below wr.heap.size wr W) (hr : k66.R 66 w2 w.heap.size (fun _ => True) v (O ++ [o])) (hbel : Below w.heap.size w w2) (hg : W.grownBy w2 u0.ownBlock) : Rq w b g gg a e pl v u1 u2 u3 u4 nx (O ++ [o]) S H R Q (w2.setCell ⟨gg, 0, none⟩ v) := by
 have q := h.below hb
 have hk := blk_grown q.blk hg (Kd.R_ne q.r0 q.blk (by decide))
 have ht := q.tx.grown hg (IsS69.own_ne q.tx q.r0 (by decide))
 exact ⟨ht.far (IsS69.ne_blk ht hk (by decide)) _, below_set hbel (Nat.le_of_lt h.ge), blk_far (blk_grown q.res hg (Kd.R_ne q.r0 q.res (by decide))) (by have := h.ge; show w.heap.size ≠ gg; omega) _, by simpa using blk_set hk 0 v, h.ge, row_set hr hk (by decide) _ _, row_set (row_grown q.r1 q.r0 hg (by decide)) hk (by decide) _ _, row_set (row_grown q.r2 q.r0 hg (by decide)) hk (by decide) _ _, row_set (row_grown q.r3 q.r0 hg (by decide)) hk (by decide) _ _, row_set (row_grown q.r4 q.r0 hg (by decide)) hk (by decide) _ _⟩
theorem Rq.push1 {W : World} {v : Value} {o : List (List Int)} (h : Rq w b g gg a e pl u0 u1 u2 u3 u4 nx O S H R Q wr) (hb : Below wr.heap.size wr W) (hr : kS.R 26 w2 w.heap.size (fun _ => True) v (S ++ [o])) (hbel : Below w.heap.size w w2) (hg : W.grownBy w2 u1.ownBlock) : Rq w b g gg a e pl u0 v u2 u3 u4 nx O (S ++ [o]) H R Q (w2.setCell ⟨gg, 1, none⟩ v) := by
 have q := h.below hb
 have hk := blk_grown q.blk hg (Kd.R_ne q.r1 q.blk (by decide))
 have ht := q.tx.grown hg (IsS69.own_ne q.tx q.r1 (by decide))
 exact ⟨ht.far (IsS69.ne_blk ht hk (by decide)) _, below_set hbel (Nat.le_of_lt h.ge), blk_far (blk_grown q.res hg (Kd.R_ne q.r1 q.res (by decide))) (by have := h.ge; show w.heap.size ≠ gg; omega) _, by simpa using blk_set hk 1 v, h.ge, row_set (row_grown q.r0 q.r1 hg (by decide)) hk (by decide) _ _, row_set hr hk (by decide) _ _, row_set (row_grown q.r2 q.r1 hg (by decide)) hk (by decide) _ _, row_set (row_grown q.r3 q.r1 hg (by decide)) hk (by decide) _ _, row_set (row_grown q.r4 q.r1 hg (by decide)) hk (by decide) _ _⟩
end
end Go.Proofs.YtihjjkoddphmiaaGreatDoor.img
