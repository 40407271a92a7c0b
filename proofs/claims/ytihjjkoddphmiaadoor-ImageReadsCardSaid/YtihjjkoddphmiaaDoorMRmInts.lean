/-
  The walks of the room's Ints, Words and Bytes: a copy with marks behind it.
-/
import Derived.Test.YtihjjkoddphmiaaDoorMRmB

namespace Go.Proofs.YtihjjkoddphmiaaDoor.img
open Go.RowKit Go.Proofs.YtihjjkoddphmiaaDoorW.PrintWords Go.Proofs.YtihjjkoddphmiaaDoorW.PrintLast Go.Proofs.YtihjjkoddphmiaaDoorW.PrintMore Go.Proofs.YtihjjkoddphmiaaDoor.PImageRound
set_option linter.unusedVariables false
set_option linter.unusedSimpArgs false

theorem Rm.low_size {w : World} {ρ : Nat → Role} {base r K : Nat} {C : Array Value} (h : Rm w ρ base r C K) : base ≤ w.heap.size := Nat.le_trans h.low (Nat.le_of_lt h.lt)
/-- A row of the call's own, under construction. -/
structure Cp (w : World) (e sz : Nat) (v : Value) (n : Nat) (xs : List Value) (wr : World) : Prop where
 own : wr.ownsRow w.heap.size e sz v n xs
 bel : Below w.heap.size w wr
theorem Cp.own_ge {w wr : World} {e sz n : Nat} {v : Value} {xs : List Value} (h : Cp w e sz v n xs wr) : ∀ k, v.ownBlock = some k → w.heap.size ≤ k := fun k hk => own_base h.own k hk
theorem Cp.grown {w wr w1 W : World} {e sz n n' : Nat} {v v' : Value} {xs xs' : List Value} (h : Cp w e sz v n xs wr) (hb : Below wr.heap.size wr W) (hg : W.grownBy w1 v.ownBlock) (ho : w1.ownsRow w.heap.size e sz v' n' xs') : Cp w e sz v' n' xs' w1 :=
 ⟨ho, pw_below_grown (below_step h.bel hb) v.ownBlock (below_step h.bel hb).size hg h.own_ge⟩
/-- What lies behind the copy. -/
def mks (a b : Value) : Nat → List Value
 | 0 => []
 | k + 1 => mks a b k ++ [a, b]
theorem Cp.first {α : Type} {w wr : World} {e sz : Nat} {v : Value} {f : α → Value} {l : List α} (h : Cp w e sz v l.length (encs f (l.take l.length)) wr) (a b : Value) : Cp w e sz v (l.length + 2 * 0) (encs f l ++ mks a b 0) wr := by
 rw [List.take_length] at h
 simpa [mks] using h
/-- A row of the call's own lies in a block. -/
theorem Cp.form {w wr : World} {e sz n : Nat} {v : Value} {xs : List Value} (h : Cp w e sz v n xs wr) (hn : 0 < n) : ∃ f cap cs, v = .slice (some ⟨f, 0, none⟩) n cap ∧ w.heap.size ≤ f ∧ n ≤ cap ∧ wr.heap[f]? = some (.cells cs e (0, 0)) ∧ ∀ (j : Nat) (u : Value), xs[j]? = some u → cs[j]? = some u := by
 rcases h.own.2 with ⟨-, h0⟩ | ⟨f, cap, cs, rfl, hb, hh, hc, -, hs, ht⟩
 ·omega
 ·refine ⟨f, cap, cs, rfl, hb, hc, hh, fun j u hu => ?_⟩
  rw [← ht, List.getElem?_take] at hu
  split at hu
  ·simpa using hu
  ·cases hu
theorem mks_length (a b : Value) : ∀ k, (mks a b k).length = 2 * k
 | 0 => rfl
 | k + 1 => by rw [mks, List.length_append, mks_length a b k]; simp; omega
theorem mks_get (a b : Value) : ∀ (k j : Nat), j < 2 * k → (mks a b k)[j]? = some (if j % 2 = 0 then a else b)
 | 0, j, h => by omega
 | k + 1, j, h => by
  rw [mks]
  have hl := mks_length a b k
  by_cases hj : j < 2 * k
  ·rw [List.getElem?_append_left (by omega), mks_get a b k j hj]
  ·rw [List.getElem?_append_right (by omega), hl]
   obtain rfl | rfl : j = 2 * k ∨ j = 2 * k + 1 := by omega
   ·rw [show 2 * k - 2 * k = 0 by omega, if_pos (by omega)]; rfl
   ·rw [show 2 * k + 1 - 2 * k = 1 by omega, if_neg (by omega)]; rfl

theorem row_new (w : World) (xs : List Value) (cs : Array Value) (e : Nat) (h : cs.toList = xs) : ∀ (j : Nat) (u : Value), xs[j]? = some u → (w.alloc (.cells cs e)).cell? ((⟨w.heap.size, 0, none⟩ : Addr).add j) = some u := by
 intro j u hu
 subst h
 rw [add_plain, blk_cell (heap_alloc_new w _)]
 simpa using hu
theorem one_cells {xs : List Value} (h : xs.all (fun u => u.oneCell') = true) : ∀ u ∈ xs, u.oneCell' = true := fun u hu => List.all_eq_true.1 h u hu
/-- The end of a copy: the list is laid behind those of its kind. -/
theorem lends_of {α : Type} {P : El α} {y : α} {w wr w2 : World} {ρ ρr : Nat → Role} {base r K f i e : Nat} {C : Array Value} {M : Mk} {x : Role} {v v' u vr : Value} {vals : List Value} {o : Obj} (hE0 : Ext w ρ wr ρr) (hbw : Below base w wr) (hf : w.heap.size ≤ f) (h : Rm wr (up ρr f x) base r C K) (hbase : base ≤ w.heap.size) (hm : (i, e, M) ∈ flds)
  (h1 : C[i]? = some v) (h2 : wr.ownsRow base e 1 v vals.length vals) (h3 : vals.length ≤ K) (h4 : ∀ k, v.ownBlock = some k → up ρr f x k = .own) (h5 : ∀ q ∈ vals, M wr (up ρr f x) q)
  (hu : M wr (up ρr f x) u) (hg : (wr.alloc o).grownBy w2 v.ownBlock) (ho : w2.ownsRow base e 1 v' (vals.length + 1) (vals ++ [u])) (hat : v'.ownBlock = v.ownBlock ∨ v'.ownBlock = some (wr.alloc o).heap.size)
  (hP : ∀ w' ρ', Lies wr (up ρr f x) w' ρ' → P w' ρ' vr y) : Lends P y w ρ base r (K + 1) (.returned vr) (w2.setCell ⟨r, i, none⟩ v') := by
 have hba : Below wr.heap.size wr (wr.alloc o) := below_alloc (Below.refl _ _) o
 have hx : FxLe wr (up ρr f x) (wr.alloc o) (up ρr f x) := (Ext.below hba).fx
 obtain ⟨ρ', hR, hE⟩ := (h.below hba).lend (v' := v') (u := u) hm h1 (h2.alloc o) h3 h4 (fun q hq => flds_stays hm hx (h5 q hq)) (flds_stays hm hx hu) hg ho (by
  rcases hat with hat | hat
  ·exact .inl hat
  ·exact .inr ⟨_, hat, Nat.le_refl _⟩)
 have hE2 : Ext wr (up ρr f x) (w2.setCell ⟨r, i, none⟩ v') ρ' := (Ext.below hba).trans hE
 refine ⟨ρ', _, vr, rfl, hR, (hE0.up hf x).trans hE2, ?_, hP _ _ hE2.lies⟩
 have hbw2 : Below base w (wr.alloc o) := hbw.alloc (Nat.le_trans hbase hE0.size) o
 exact (hbw2.grown hg (Nat.le_trans hbase hbw2.size) (fun k hk => own_base h2 k hk)).setCell h.low _
theorem fl1 : ((1, 24, MNum .i64 (mk (-7701)) 40) : Nat × Nat × Mk) ∈ flds := .tail _ (.head _)
theorem fl0 : ((0, 47, MNum .u8 mkb 600) : Nat × Nat × Mk) ∈ flds := .head _
theorem fl2 : ((2, 60, MNum .u64 mkw 40) : Nat × Nat × Mk) ∈ flds := .tail _ (.tail _ (.head _))
theorem info47 : (Tryd.prog.info? 47).map (fun i => (i.zero, i.size, i.bytes)) = some (some (.slice none 0 0), 1, 24) := by kernel_rfl
set_option maxHeartbeats 8000000 in
set_option maxRecDepth 100000 in
theorem Bytes_any (base r K : Nat) (C : Array Value) (ρ : Nat → Role) (A : Option Addr) (c : Nat) (l : List Int) (w : World) (hRm : Rm w ρ base r C K) (hl : l.length ≤ 1000000) (hC : (Kd.int .u8).C w A l.length l) (hK : K ≤ 4000000000000) :
  Calls Tryd.prog 21 #[.pointer (some ⟨r, 0, none⟩), .slice A l.length c] w (Lends (LI .u8 5) l w ρ base r (K + 1)) := by
 obtain ⟨i3, hi3, h30, h31, h32⟩ := info_parts info5
 obtain ⟨i24, hi24, h240, h241, h242⟩ := info_parts info47
 have HC := Aside0.mk hC
 have HR := Aside0.mk hRm
 clear hC hRm
 have HS : Aside0 (Cp w 5 1 (.slice (some ⟨w.heap.size, 0, none⟩) 0 0) 0 (encs (Value.int .u8) (l.take 0)) (w.alloc (.cells #[] 5))) := ⟨⟨World.ownsRow_made w #[] 0 (Nat.le_refl _) (by decide) rfl, below_alloc (Below.refl _ _) _⟩⟩
 go_enter Tryd.func21, Tryd.ntmps21
 go_wp2
 go_loopw [5, 6] (fun v i wr => ∃ k : Nat, k ≤ l.length ∧ i = .int .i64 k ∧ Aside0 (Cp w 5 1 v k (encs (Value.int .u8) (l.take k)) wr)) (fun _ i _ => l.length - (intOf i).toNat)
 case atStart => exact ⟨0, Nat.zero_le _, rfl, HS⟩
 case round =>
  clear HS
  obtain ⟨k, hk, rfl, HO⟩ := hrel
  by_cases hlt : k < l.length
  ·obtain ⟨ad, cs, rfl, hcl, hK, hcc⟩ := Kd.C_get HC.out 0 (k : Int) (by omega) (by omega)
   have hcell : wr.cell? (ad.add k) = some (.int .u8 (l.getD k 0)) := pw_cell_below HO.out.bel (by
    have := hcc 0 (.int .u8 (l.getD k 0)) (by rw [show cs = _ from hK]; rfl)
    simpa [Kd.int, Kd.scalar] using this)
   clear hcl hK hcc
   have HT : Aside0 (encs (Value.int .u8) (l.take k) ++ [.int .u8 (l.getD k 0)] = encs (Value.int .u8) (l.take (k + 1))) := ⟨by
    rw [List.take_succ_eq_append_getElem hlt, encs, encs, List.map_append, List.getD_eq_getElem?_getD, List.getElem?_eq_getElem hlt]; rfl⟩
   generalize l.getD k 0 = x at hcell HT
   go_wp2_with (at_builtin; refine wpList_append_own_at _ rfl _ _ 47 rfl w.heap.size 5 i3 (.int .u8 0) 1 1 Tryd.underlying47 hi3 h30 h31 h32 rfl (by decide) _ _ _ rfl (HO.out.own.alloc _) ⟨wr.heap.size, 0, none⟩ 1 1 [.int .u8 x] rfl rfl (row_new wr _ _ 5 rfl) (one_cells rfl) (by unfold maxLen; omega) (by omega) (by have := HO.out.bel.size; simp; omega) ?_; intro v1 w1 ho hg _ _)
   have HN := Aside0.mk (HO.out.grown (below_alloc (Below.refl _ _) _) hg ho)
   rw [HT.out] at HN
   clear ho hg hcell
   go_wp2
   go_roundw
   case rel => exact ⟨k + 1, by omega, by go_num, HN⟩
   case measure => simp [intOf]; omega
  ·obtain rfl : k = l.length := by omega
   clear hlt hk
   have HS := Aside0.mk (HO.out.first (.int .u8 165) (.int .u8 90))
   clear HO
   go_wp2
   go_loopw [5, 7] (fun v i wr => ∃ k : Nat, k ≤ 300 ∧ i = .int .i64 ((2 * k : Nat) : Int) ∧ Aside0 (Cp w 5 1 v (l.length + 2 * k) (encs (Value.int .u8) l ++ mks (.int .u8 165) (.int .u8 90) k) wr)) (fun _ i _ => 600 - (intOf i).toNat)
   case atStart => exact ⟨0, by omega, rfl, HS⟩
   case round =>
    clear HS
    obtain ⟨k, hk, rfl, HO⟩ := hrel
    by_cases hlt : k < 300
    ·have t1 : ((2 * k : Nat) : Int) < 600 := by omega
     generalize hm : 2 * k = m at t1 HO
     have HM := Aside0.mk hm
     clear hm
     go_wp2_with (at_builtin; refine wpList_append_own_at _ rfl _ _ 47 rfl w.heap.size 5 i3 (.int .u8 0) 1 1 Tryd.underlying47 hi3 h30 h31 h32 rfl (by decide) _ _ _ rfl (HO.out.own.alloc _) ⟨wr.heap.size, 0, none⟩ 2 2 [.int .u8 165, .int .u8 90] rfl rfl (row_new wr _ _ 5 rfl) (one_cells rfl) (by unfold maxLen; omega) (by omega) (by have := HO.out.bel.size; simp; omega) ?_; intro v1 w1 ho hg _ _)
     have HN := Aside0.mk (HO.out.grown (below_alloc (Below.refl _ _) _) hg ho)
     rw [List.append_assoc] at HN
     clear ho hg
     go_wp2
     go_roundw
     case rel =>
      have := HM.out
      exact ⟨k + 1, by omega, by rw [← this]; go_num, ⟨by rw [← this] at HN; exact HN.out⟩⟩
     case measure => simp [intOf]; omega
    ·obtain rfl : k = 300 := by omega
     clear hlt hk
     obtain ⟨f, cap, cs, rfl, hfb, hcap, hfc, hcs⟩ := HO.out.form (by omega)
     have HF := Aside0.mk (And.intro hfb (And.intro hcap (And.intro hfc hcs)))
     have HR2 := Aside0.mk ((HR.out.below HO.out.bel).settle (HR.out.fresh f hfb) (blk_lt hfc) (Nat.le_trans HR.out.low_size hfb) (.fix l.length))
     obtain ⟨v1, vals, hC1, hown1, hlen1, hrole1, hmk1⟩ := HR2.out.fld _ fl0
     obtain ⟨A1, c1, rfl⟩ := own_slice hown1
     have HV := Aside0.mk (And.intro hC1 (And.intro hown1 (And.intro hlen1 (And.intro hrole1 hmk1))))
     have hr1 : wr.cell? ⟨r, 0, none⟩ = some (.slice A1 vals.length c1) := (blk_cell HR2.out.blk 0).trans hC1
     clear hfb hcap hfc hcs hC1 hown1 hlen1 hrole1 hmk1
     have p1 : (l.length : Int) + 600 ≤ (cap : Int) := by have := HF.out.2.1; omega
     have p2 : l.length + 600 ≤ cap := by omega
     have p3 : l.length ≤ l.length + 600 := by omega
     have hg1 : (wr.alloc (.cells #[.slice (some ⟨f, 0, none⟩) (l.length + 2 * 300) cap] 47)).heap[r]? = some (.cells C 38 (0, 0)) := blk_alloc HR2.out.blk _
     go_wp2_with (at_builtin; refine wpList_append_own_at _ rfl _ _ 30 rfl base 47 i24 (.slice none 0 0) 1 24 Tryd.underlying30 hi24 h240 h241 h242 rfl (by decide) _ _ _ rfl (HV.out.2.1.alloc _) ⟨wr.heap.size, 0, none⟩ 1 1 [.slice (some ⟨f, 0, none⟩) (l.length + 2 * 300) cap] rfl rfl (row_new wr _ _ 47 rfl) (one_cells rfl) (by have := HV.out.2.2.1; unfold maxLen; omega) (by have := HV.out.2.2.1; omega) (by have := HR2.out.lt; have := HR2.out.low; simp; omega) ?_; intro v2 w2 ho hg _ hat; obtain ⟨f2, c2, rfl, -, -⟩ := ho.form (by omega); have hb2 := blk_grown hg1 hg (own_ne HV.out.2.1 HR2.out.blk (by decide)); have hcg := (blk_cell hb2 0).trans HV.out.1; have hfz := blk_frozen hb2 0)
     refine bodyPost_ret (v := .slice (some ⟨f, 0, none⟩) l.length (l.length + 600)) (by simp [results, Tryd.results21, go_sem]) rfl ?_
     obtain ⟨hfb, hcap, hfc, hcs⟩ := HF.out
     obtain ⟨hC1, hown1, hlen1, hrole1, hmk1⟩ := HV.out
     refine lends_of (Ext.below HO.out.bel) (HO.out.bel.mono HR.out.low_size) hfb HR2.out HR.out.low_size fl0 hC1 hown1 hlen1 hrole1 hmk1 ?_ hg ho hat ?_
     ·refine ⟨f, l.length + 600, cap, rfl, by omega, by omega, by omega, fun j hj => ⟨?_, l.length, up_at _ _ _, by omega⟩⟩
      rw [blk_cell hfc]
      refine hcs _ _ ?_
      rw [List.getElem?_append_right (by simp [encs])]
      rw [show l.length + 600 - 600 + j - (encs (Value.int .u8) l).length = j by simp [encs], mks_get _ _ _ _ (by omega)]
      unfold mkb
      split <;> rfl
     ·intro w' ρ' hl'
      refine LI.stay _ _ _ _ _ _ _ _ hl' ⟨f, l.length + 600, cs, l.length, rfl, by omega, by omega, hfc, up_at _ _ _, Nat.le_refl _, fun j x hx => ⟨_, hcs j _ ?_, rfl⟩⟩
      have hj : j < l.length := (List.getElem?_eq_some_iff.1 hx).1
      rw [List.getElem?_append_left (by simpa [encs] using hj), encs, List.getElem?_map, hx]
      rfl
end Go.Proofs.YtihjjkoddphmiaaDoor.img
