/-
  The walk of middenref16.Read.
-/
import Derived.Test.YtihjjkoddphmiaaGreatDoorNRefRq
import Derived.Test.YtihjjkoddphmiaaGreatDoorNRefTk
import Derived.Test.YtihjjkoddphmiaaGreatDoorNRefSz
import Derived.Test.YtihjjkoddphmiaaGreatDoorNRefCheck
import Derived.Test.YtihjjkoddphmiaaGreatDoorNRefNb
import Derived.Test.YtihjjkoddphmiaaGreatDoorNRefSm
namespace Go.Proofs.YtihjjkoddphmiaaGreatDoor.img
open Go.RowKit Go.Proofs.YtihjjkoddphmiaaGreatDoorW.PrintWords Go.Proofs.YtihjjkoddphmiaaGreatDoorW.PrintLast Go.Proofs.YtihjjkoddphmiaaGreatDoorW.PrintMore Go.Proofs.YtihjjkoddphmiaaGreatDoor.PImageApart
set_option linter.unusedVariables false
set_option linter.unusedSimpArgs false

theorem tnumber_zz {γ : Type} {b : List Int} {F : Res γ} {a e pl : Int} {w0 w : World} {g : Nat} (hb : Bytes b) (hl : b.length ≤ 1000000) {K : Nat → Nat → Res γ} (hI : IsS69 w0 w g b a e pl) (hB : Below w0.heap.size w0 w) (h : Lv b F (fun p => (num b great p).bind K) a e pl) :
  Calls Tryz.prog 16 #[.pointer (some ⟨g, 0, none⟩)] w fun en w' => ∃ n a' e' pl', en = .returned (.int .u64 n) ∧ (0 ≤ n ∧ n ≤ 4611686018427387905) ∧ Lv b F (fun p => K n.toNat p) a' e' pl' ∧ Ts w0 w g b a' e' pl' w' := by
 refine (tnumber_hand hb hl hI hB h).mono ?_
 rintro en w' ⟨n, a', e', pl', rfl, h1, -, h3, h4⟩
 exact ⟨n, a', e', pl', rfl, ⟨by omega, by omega⟩, h3, h4⟩
theorem tobject_zz {γ : Type} {b : List Int} {F : Res γ} {a e pl : Int} {w0 w : World} {g : Nat} (hb : Bytes b) (hl : b.length ≤ 1000000) {K : S66 × Int → Nat → Res γ} (last lastP : Int) (hlast : 0 ≤ last ∧ last ≤ 4611686018427387904) (hI : IsS69 w0 w g b a e pl) (hB : Below w0.heap.size w0 w) (h : Lv b F (fun p => (obj b lastP p).bind K) a e pl) :
  Calls Tryz.prog 18 #[.pointer (some ⟨g, 0, none⟩), .int .u64 last] w fun en w' => ∃ (o : S66) (gr : Bool) (v3 v4 : Value) (a' e' pl' step : Int), en = .returned (.tuple #[.agg #[.int .u64 o.f0, .int .i64 o.f1, .int .i64 o.f2, v3, v4], .bool gr]) ∧ Obk last step o gr ∧ Kd.R (Kd.int .i64) 3 w' w.heap.size (fun _ => True) v3 o.f3 ∧ Kd.R (Kd.int .u64) 42 w' w.heap.size (fun _ => True) v4 o.f4 ∧
   Lv b F (fun p => K (⟨ser lastP step, o.f1, o.f2, o.f3, o.f4⟩, ser lastP step) p) a' e' pl' ∧ Ts w0 w g b a' e' pl' w' := tobject_hand hb hl last lastP hlast hI hB h
abbrev emptyG : Array Value := #[.slice none 0 0, .slice none 0 0, .slice none 0 0, .slice none 0 0, .slice none 0 0, .int .u64 0]
theorem info66r : (Tryz.prog.info? 66).map (fun i => (i.zero, i.size, i.bytes)) = some (some (.agg #[.int .u64 0, .int .i64 0, .int .i64 0, .slice none 0 0, .slice none 0 0]), 5, 72) := by kernel_rfl
/-- Ahead of the graph's variable. -/
structure Rp (w : World) (b : List Int) (g : Nat) (a e pl : Int) (wr : World) : Prop where
 tx : IsS69 w wr g b a e pl
 bel : Below w.heap.size w wr
 res : wr.heap[w.heap.size]? = some (.cells emptyG 44 (0, 0))
theorem Rp.ts {w wr w2 : World} {b : List Int} {g : Nat} {a e pl a' e' pl' : Int} (h : Rp w b g a e pl wr) (t : Ts w wr g b a' e' pl' w2) : Rp w b g a' e' pl' w2 :=
 ⟨t.tx, t.bel, t.keep.blk h.res (fun e => IsS69.ne_blk h.tx h.res (by decide) e.symm) (by simp)⟩
theorem tfault0_any {b : List Int} {a pl : Int} {w0 w : World} {g : Nat} (p c : Int) (hI : IsS69 w0 w g b a 0 pl) (hB : Below w0.heap.size w0 w) :
  Calls Tryz.prog 15 #[.pointer (some ⟨g, 0, none⟩), .int .i64 p, .int .i64 c] w fun en w' => en = .returned (.tuple #[]) ∧ Ts w0 w g b a c p w' := by
 have h := tfault_hand p c hI hB
 rw [if_pos rfl, if_pos rfl] at h
 exact h
/-- What stands behind the head: the graph alone. -/
def restR (b : List Int) (p : Nat) : Res Gr := graph b p
def readB (b : List Int) : Res Gr := (beginR b).bind fun _ p => graph b p
def endK (b : List Int) (g : Gr) (p : Nat) : Res Gr := (endR b p).bind fun _ _ => if okB (whole g) = true then .ok (whole g) 0 else .bad 0 164
theorem readR_open (b : List Int) : readR b = (readB b).bind (endK b) := by
 unfold readR readB
 rw [Res.bind_assoc]
 rfl
theorem readB_ok {b : List Int} {g : Gr} {p : Nat} (h : readB b = .ok g p) : graph b 4 = .ok g p := by
 obtain ⟨u, q, h1, h2⟩ := bind_ok h
 unfold beginR at h1
 split at h1
 ·cases h1
 ·split at h1
  ·injection h1 with h3 h4
   rw [h4]
   exact h2
  ·cases h1

def restE (b : List Int) (g : Gr) (p : Nat) : Res Gr := .ok g p
def restQ (b : List Int) (next : Int) (O : List S66) (S : List (List (List Int))) (H : List Int) (p : Nat) : Res Gr := (ints b 0 () p).bind fun q p => restE b ⟨O, S, H, [], q.1, next⟩ p
def restH (b : List Int) (next : Int) (O : List S66) (S : List (List (List Int))) (p : Nat) : Res Gr := (ints b 1 () p).bind fun h p => restQ b next O S h.1 p
def restS (b : List Int) (next : Int) (O : List S66) (p : Nat) : Res Gr :=
 (num b great p).bind fun n p => if b.length - p < n then .bad b.length 160 else (many (frames b) n () p).bind fun s p => restH b next O s.1 p
theorem restR_open (b : List Int) (p : Nat) : restR b p = (num b great p).bind fun next p => (num b great p).bind fun n p => if b.length - p < n then .bad b.length 160 else (many (obj b) n 0 p).bind fun o p => restS b next o.1 p := by
 unfold restR graph
 simp only [Res.bind_assoc, Res.ok_bind, lst, Res.ite_bind, Res.bad_bind, restS, restH, restQ, restE]
theorem Rp.start {w wr : World} {b : List Int} {g : Nat} {a e pl : Int} (h : Rp w b g a e pl wr) : Rq w b g wr.heap.size a e pl (.slice none 0 0) (.slice none 0 0) (.slice none 0 0) (.slice none 0 0) (.slice none 0 0) 0 [] [] [] [] [] (wr.alloc (.cells emptyG 44)) :=
 ⟨h.tx.alloc _, below_alloc h.bel _, blk_below h.res (below_alloc (Below.refl _ _) _), heap_alloc_new wr _, blk_lt h.res, Kd.R_nil _ _ _ _ _, Kd.R_nil _ _ _ _ _, Kd.R_nil _ _ _ _ _, Kd.R_nil _ _ _ _ _, Kd.R_nil _ _ _ _ _⟩

/-- Six cells of a block are stored. -/
abbrev set6 (wr : World) (k : Nat) (x0 x1 x2 x3 x4 x5 : Value) : World := (((((wr.setCell ⟨k, 0, none⟩ x0).setCell ⟨k, 1, none⟩ x1).setCell ⟨k, 2, none⟩ x2).setCell ⟨k, 3, none⟩ x3).setCell ⟨k, 4, none⟩ x4).setCell ⟨k, 5, none⟩ x5
theorem set6_blk {wr : World} {k : Nat} {y0 y1 y2 y3 y4 y5 : Value} (x0 x1 x2 x3 x4 x5 : Value) (h : wr.heap[k]? = some (.cells #[y0, y1, y2, y3, y4, y5] 44 (0, 0))) : (set6 wr k x0 x1 x2 x3 x4 x5).heap[k]? = some (.cells #[x0, x1, x2, x3, x4, x5] 44 (0, 0)) := by
 simpa using blk_set (blk_set (blk_set (blk_set (blk_set (blk_set h 0 x0) 1 x1) 2 x2) 3 x3) 4 x4) 5 x5
theorem set6_below {w wr : World} {k n : Nat} (x0 x1 x2 x3 x4 x5 : Value) (h : Below n w wr) (hk : n ≤ k) : Below n w (set6 wr k x0 x1 x2 x3 x4 x5) :=
 (((((h.setCell (p := ⟨k, 0, none⟩) hk x0).setCell (p := ⟨k, 1, none⟩) hk x1).setCell (p := ⟨k, 2, none⟩) hk x2).setCell (p := ⟨k, 3, none⟩) hk x3).setCell (p := ⟨k, 4, none⟩) hk x4).setCell (p := ⟨k, 5, none⟩) hk x5
theorem set6_row {wr : World} {k : Nat} {cs : Array Value} {α : Type} {d : Kd α} {t : TypeId} {base : Nat} {v : Value} {xs : List α} (x0 x1 x2 x3 x4 x5 : Value) (h : d.R t wr base (fun _ => True) v xs) (hb : wr.heap[k]? = some (.cells cs 44 (0, 0))) (ht : ∀ q, q ∈ t :: d.E → q ≠ 44) : d.R t (set6 wr k x0 x1 x2 x3 x4 x5) base (fun _ => True) v xs := by
 have h0 := row_set h hb ht 0 x0
 have b0 := blk_set hb 0 x0
 have h1 := row_set h0 b0 ht 1 x1
 have b1 := blk_set b0 1 x1
 have h2 := row_set h1 b1 ht 2 x2
 have b2 := blk_set b1 2 x2
 have h3 := row_set h2 b2 ht 3 x3
 have b3 := blk_set b2 3 x3
 have h4 := row_set h3 b3 ht 4 x4
 have b4 := blk_set b3 4 x4
 exact row_set h4 b4 ht 5 x5
theorem post_world {P : Program} {F : Func} {R : Ending → World → Prop} {e : Exit} {a : Act} {w1 : World} (p : World → Prop) (h : p w1) (k : ∀ w2, p w2 → bodyPost P F R e a w2) : bodyPost P F R e a w1 := k w1 h
/-- Where the reading has failed. -/
theorem Rq.dead {w wr : World} {b : List Int} {g gg : Nat} {a e pl : Int} {u0 u1 u2 u3 u4 : Value} {nx : Int} {O : List S66} {S : List (List (List Int))} {H R Q : List Int} (h : Rq w b g gg a e pl u0 u1 u2 u3 u4 nx O S H R Q wr) :
  Below w.heap.size w (set6 wr w.heap.size (.slice none 0 0) (.slice none 0 0) (.slice none 0 0) (.slice none 0 0) (.slice none 0 0) (.int .u64 0)).drew ∧ (set6 wr w.heap.size (.slice none 0 0) (.slice none 0 0) (.slice none 0 0) (.slice none 0 0) (.slice none 0 0) (.int .u64 0)).drew.heap[w.heap.size]? = some (.cells emptyG 44 (0, 0)) :=
 ⟨below_drew (set6_below _ _ _ _ _ _ h.bel (Nat.le_refl _)), blk_drew (set6_blk _ _ _ _ _ _ h.res)⟩
/-- Where it has not. -/
theorem Rq.done {w wr : World} {b : List Int} {g gg : Nat} {a e pl : Int} {u0 u1 u2 u3 u4 : Value} {nx : Int} {O : List S66} {S : List (List (List Int))} {H R Q : List Int} (h : Rq w b g gg a e pl u0 u1 u2 u3 u4 nx O S H R Q wr) :
  Below w.heap.size w (set6 wr w.heap.size u0 u1 u2 u3 u4 (.int .u64 nx)) ∧ (set6 wr w.heap.size u0 u1 u2 u3 u4 (.int .u64 nx)).heap[w.heap.size]? = some (.cells #[u0, u1, u2, u3, u4, .int .u64 nx] 44 (0, 0)) ∧ Got w (set6 wr w.heap.size u0 u1 u2 u3 u4 (.int .u64 nx)) ⟨O, S, H, R, Q, nx⟩ u0 u1 u2 u3 u4 :=
 ⟨set6_below _ _ _ _ _ _ h.bel (Nat.le_refl _), set6_blk _ _ _ _ _ _ h.res, set6_row _ _ _ _ _ _ h.r0 h.res (by decide), set6_row _ _ _ _ _ _ h.r1 h.res (by decide), set6_row _ _ _ _ _ _ h.r2 h.res (by decide), set6_row _ _ _ _ _ _ h.r3 h.res (by decide), set6_row _ _ _ _ _ _ h.r4 h.res (by decide)⟩

theorem Rq.rd {w wr : World} {b : List Int} {g gg : Nat} {a e pl : Int} {A0 A1 A2 A3 A4 : Option Addr} {c0 c1 c2 c3 c4 : Nat} {nx : Int} {O : List S66} {S : List (List (List Int))} {H R Q : List Int} (h : Rq w b g gg a e pl (.slice A0 O.length c0) (.slice A1 S.length c1) (.slice A2 H.length c2) (.slice A3 R.length c3) (.slice A4 Q.length c4) nx O S H R Q wr) : Rd wr ⟨A0, A1, A2, A3, A4, c0, c1, c2, c3, c4⟩ ⟨O, S, H, R, Q, nx⟩ := by
 obtain ⟨_, _, e0, h0, C0⟩ := Kd.R_reads h.r0
 obtain ⟨_, _, e1, h1, C1⟩ := Kd.R_reads h.r1
 obtain ⟨_, _, e2, h2, C2⟩ := Kd.R_reads h.r2
 obtain ⟨_, _, e3, h3, C3⟩ := Kd.R_reads h.r3
 obtain ⟨_, _, e4, h4, C4⟩ := Kd.R_reads h.r4
 injection e0 with e0 _ e0'; injection e1 with e1 _ e1'; injection e2 with e2 _ e2'; injection e3 with e3 _ e3'; injection e4 with e4 _ e4'
 subst e0 e1 e2 e3 e4 e0' e1' e2' e3' e4'
 exact ⟨C0, C1, C2, C3, C4, h0, h1, h2, h3, h4⟩

theorem info25r : (Tryz.prog.info? 25).map (fun i => (i.zero, i.size, i.bytes)) = some (some (.slice none 0 0), 1, 24) := by kernel_rfl
theorem info26r : (Tryz.prog.info? 26).map (fun i => (i.zero, i.size, i.bytes)) = some (some (.slice none 0 0), 1, 24) := by kernel_rfl
theorem Ts.next {w0 w w1 w2 : World} {g : Nat} {b : List Int} {a e pl a' e' pl' : Int} (h : Ts w0 w g b a e pl w1) (k : Ts w0 w1 g b a' e' pl' w2) : Ts w0 w g b a' e' pl' w2 := ⟨k.tx, k.bel, h.keep.trans k.keep (.inl rfl)⟩
theorem Ts.grow {w0 w w1 w2 : World} {g : Nat} {b : List Int} {a e pl : Int} {row : Option Nat} (h : Ts w0 w g b a e pl w1) (hg : w1.grownBy w2 row) (hb : Below w.heap.size w1 w2) (h0 : w0.heap.size ≤ w.heap.size) (ht : IsS69 w0 w2 g b a e pl) : Ts w0 w g b a e pl w2 :=
 ⟨ht, h.bel.trans (hb.mono h0), ⟨Nat.le_trans h.keep.1 hb.size, fun i hi h1 h2 => (hb.block i hi).trans (h.keep.2 i hi h1 h2)⟩⟩

set_option maxHeartbeats 16000000 in
set_option maxRecDepth 100000 in
theorem RefRead_any (B : Option Addr) (c : Nat) (bs : List Int) (w : World) (hb : Bytes bs) (hl : bs.length ≤ 1000000) (hlc : bs.length ≤ c) (hC : Kd.C (Kd.int .u8) w B bs.length bs) :
  Calls Tryz.prog 5 #[.slice B bs.length c] w (ReadPost w (readR bs)) := by
 have hb1 : Below w.heap.size w (w.alloc (.cells emptyG 44)) := below_alloc (Below.refl _ _) _
 have HP := Aside0.mk (show Rp w bs (w.heap.size + 1) 4 0 0 ((w.alloc (.cells emptyG 44)).alloc (.cells #[.slice B bs.length c, .int .i64 4, .int .i64 0, .int .i64 0] 69)) from by
  refine ⟨?_, below_alloc hb1 _, blk_below (heap_alloc_new w _) (below_alloc (Below.refl _ _) _)⟩
  have := IsS69.new w (w.alloc (.cells emptyG 44)) B c bs 4 0 0 hb1 hC
  simpa using this)
 have HC := Aside0.mk hC
 have HBY := Aside0.mk hb
 clear hb1 hC hb
 rw [readR_open]
 obtain ⟨F, hF⟩ : ∃ F, readB bs = F := ⟨_, rfl⟩
 have HF := Aside0.mk hF
 rw [hF]
 clear hF
 go_enter Tryz.func5, Tryz.ntmps5
 go_upto_if 24 with fail
 go_cut [] from 22 to 34 (fun wx => ∃ a e pl, Aside0 (Rp w bs (w.heap.size + 1) a e pl wx) ∧ Aside0 (Lv bs F (restR bs) a e pl))
 case first =>
  by_cases hd4 : bs.length < 4
  ·have HFB : Aside0 (F = .bad bs.length 160) := ⟨by rw [← HF.out]; unfold readB beginR; rw [if_pos hd4]; rfl⟩
   have HFA := Aside0.mk (tfault0_any (bs.length : Int) 160 HP.out.tx HP.out.bel)
   have p1 : (bs.length : Int) < 4 := by omega
   go_wp2_with (fail)
   refine HFA.out.mono ?_
   rintro en w1 ⟨rfl, ts⟩
   have HP1 := Aside0.mk (HP.out.ts ts)
   clear ts HFA HP
   go_wp2_with (fail)
   go_meet
   exact ⟨_, _, _, HP1, ⟨.inr ⟨_, rfl, by decide, HFB.out⟩⟩⟩
  have p1 : ¬ (bs.length : Int) < 4 := by omega
  have p2 : (4 : Int) ≤ (c : Int) := by omega
  have hC := Kd.C_take (m := 4) (Kd.C_below HC.out HP.out.bel) (by omega)
  have hlen : (bs.take 4).length = 4 := by rw [List.length_take]; omega
  rw [hlen] at hC
  have hcv := Kd.C_string (P := Tryz.prog) (A := B) (c := c) Tryz.underlying40 Tryz.underlying5 Tryz.underlying9 hC
  have hsh := str_head (xs := bs.take 4) (fun x hx => HBY.out x (List.mem_of_mem_take hx))
  by_cases hd : bs.take 4 = head
  ·have HFB : Aside0 (F = restR bs 4) := ⟨by rw [← HF.out]; unfold readB beginR; rw [if_neg hd4, if_pos hd]; rfl⟩
   rw [decide_eq_true hd] at hsh
   generalize hs : strOfNums (bs.take 4) = s at *
   clear hs hd hC hlen
   go_wp2_with (fail)
   go_meet
   exact ⟨_, _, _, HP, ⟨.inl ⟨4, rfl, by omega, rfl, HFB.out⟩⟩⟩
  ·have HFB : Aside0 (F = .bad 0 161) := ⟨by rw [← HF.out]; unfold readB beginR; rw [if_neg hd4, if_neg hd]; rfl⟩
   rw [decide_eq_false hd] at hsh
   generalize hs : strOfNums (bs.take 4) = s at *
   clear hs hd hC hlen
   have HFA := Aside0.mk (tfault0_any 0 161 HP.out.tx HP.out.bel)
   go_wp2_with (fail)
   refine HFA.out.mono ?_
   rintro en w1 ⟨rfl, ts⟩
   have HP1 := Aside0.mk (HP.out.ts ts)
   clear ts HFA HP
   go_wp2_with (fail)
   go_meet
   exact ⟨_, _, _, HP1, ⟨.inr ⟨0, rfl, by decide, HFB.out⟩⟩⟩
 case rest =>
  clear HP
  obtain ⟨a, e, pl, HP, HL⟩ := hcut
  have HG0 := Aside0.mk HP.out.start
  have HN := Aside0.mk (tnumber_zz HBY.out hl HG0.out.tx HG0.out.bel (Lv.imp HL.out (restR_open bs)))
  clear HL HP
  go_wp2_with (fail)
  refine HN.out.mono ?_
  rintro en w1 ⟨n, a1, e1, pl1, rfl, hn, hL1, ts⟩
  have HG1 := Aside0.mk (HG0.out.ts ts)
  have hgf : w1.frozen? ⟨wc.heap.size, 5, none⟩ = false := blk_frozen HG1.out.blk 5
  have hgc : w1.cell? ⟨wc.heap.size, 5, none⟩ = some (.int .u64 0) := (blk_cell HG1.out.blk 5).trans rfl
  have HG2 := Aside0.mk (HG1.out.set5 n)
  have HN2 := Aside0.mk (tmany_hand HBY.out hl HG2.out.tx HG2.out.bel hL1)
  rw [show ((n.toNat : Nat) : Int) = n by omega] at HN2
  clear HG0 HN ts hL1
  go_wp2_with (fail)
  refine HN2.out.mono ?_
  rintro en w2 ⟨N, a2, e2, pl2, rfl, hN, hL2, ts⟩
  have HG3 := Aside0.mk (HG2.out.ts ts)
  have HL2 := Aside0.mk hL2
  clear ts hL2 HG2 HG1 HN2 hgf hgc
  obtain ⟨gq, hgq⟩ : ∃ gq, wc.heap.size = gq := ⟨_, rfl⟩
  rw [hgq] at HG3 ⊢
  go_upto_block 0 with fail
  go_cut [8] from 9 to 69 (fun u8 wx => ∃ (gr : Bool) (last lastP a e pl : Int) (v0 : Value) (O P : List S66), u8 = .bool gr ∧ O.length ≤ N ∧ Aside0 (Rq w bs (w.heap.size + 1) gq a e pl v0 (.slice none 0 0) (.slice none 0 0) (.slice none 0 0) (.slice none 0 0) n O [] [] [] [] wx) ∧ Aside0 (Lv bs F (fun p => restS bs n P p) a e pl) ∧ Aside0 (Pr gr last lastP O P))
  case first =>
   go_wp2_with (fail)
   go_loopw [8, 9, 10] (fun u8 u9 u10 wr => ∃ (i : Nat) (gr : Bool) (last lastP a e pl : Int) (v0 : Value) (O P : List S66), u8 = .bool gr ∧ u9 = .int .u64 last ∧ u10 = .int .i64 i ∧ i ≤ N ∧ Aside0 (Rq w bs (w.heap.size + 1) gq a e pl v0 (.slice none 0 0) (.slice none 0 0) (.slice none 0 0) (.slice none 0 0) n O [] [] [] [] wr) ∧ Aside0 (Lv bs F (fun p => (many (obj bs) (N - i) lastP p).bind fun o p => restS bs n (P ++ o.1) p) a e pl) ∧ Aside0 (Pr gr last lastP O P) ∧ Aside0 (O.length = i)) (fun _ _ i _ => N - (intOf i).toNat)
   case atStart => exact ⟨0, false, 0, 0, a2, e2, pl2, _, [], [], rfl, rfl, rfl, Nat.zero_le _, HG3, HL2, ⟨Pr.start⟩, ⟨rfl⟩⟩
   case round =>
    clear HG3 HL2
    obtain ⟨i, gr, last, lastP, a, e, pl, v0, O, P, rfl, rfl, rfl, hi, HG, HL, HR, HN⟩ := hrel
    have htc : wr.cell? ⟨w.heap.size + 1, 2, none⟩ = some (.int .i64 e) := by
     obtain ⟨A0, c0, hbk, -, -⟩ := HG.out.tx
     exact cellS69_2 hbk
    by_cases hlt : i < N
    ·have p1 : (i : Int) < (N : Int) := by omega
     by_cases he : e = 0
     ·have HO := Aside0.mk (fun (wx : World) (hx : Rq w bs (w.heap.size + 1) gq a e pl v0 (.slice none 0 0) (.slice none 0 0) (.slice none 0 0) (.slice none 0 0) n O [] [] [] [] wx) => tobject_zz HBY.out hl last lastP HR.out.low hx.tx hx.bel (Lv.imp HL.out (fun p => by rw [show N - i = (N - (i + 1)) + 1 by omega]; exact many_step _ _ _ _ _)))
      subst he
      go_wp2_with (fail)
      refine (HO.out _ HG.out).mono ?_
      rintro en w5 ⟨o, g1, v3, v4, a', e', pl', step, rfl, hok, h3, h4, hL, ts⟩
      obtain ⟨A3, c3, rfl⟩ := Kd.R_slice h3
      obtain ⟨A4, c4, rfl⟩ := Kd.R_slice h4
      obtain ⟨Av, cv, rfl⟩ := Kd.R_slice HG.out.r0
      have HG1 := Aside0.mk ((HG.out.ts ts).below (below_alloc (Below.refl _ _) (.cells #[.int .u64 o.f0, .int .i64 o.f1, .int .i64 o.f2, .slice A3 o.f3.length c3, .slice A4 o.f4.length c4] 66)))
      have hgc0 : (w5.alloc (.cells #[.int .u64 o.f0, .int .i64 o.f1, .int .i64 o.f2, .slice A3 o.f3.length c3, .slice A4 o.f4.length c4] 66)).cell? ⟨gq, 0, none⟩ = some (.slice Av O.length cv) := (blk_cell HG1.out.blk 0).trans rfl
      have HR1 := Aside0.mk (HR.out.push hok)
      have HL1 := Aside0.mk hL
      have hws : w.heap.size ≤ wr.heap.size := below_size HG.out.bel
      have HM := Aside0.mk (k66_mkM (w5.alloc (.cells #[.int .u64 o.f0, .int .i64 o.f1, .int .i64 o.f2, .slice A3 o.f3.length c3, .slice A4 o.f4.length c4] 66)) w.heap.size (fun k => True ∧ some k ≠ (Value.slice Av O.length cv).ownBlock) o (Kd.R_apartR (Kd.R_below (Kd.R_lower h3 hws) (below_alloc (Below.refl _ _) _)) HG1.out.r0 (by decide)) (Kd.R_apartR (Kd.R_below (Kd.R_lower h4 hws) (below_alloc (Below.refl _ _) _)) HG1.out.r0 (by decide)))
      have hlen : (O.length + 1) * 72 ≤ 140737488355328 := by have := HN.out; omega
      clear HO HG HR HL hok h3 h4 hL ts htc
      obtain ⟨gr2, hgr2⟩ : ∃ x, (gr || g1) = x := ⟨_, rfl⟩
      cases gr
      ·go_wp2_with (first | (at_builtin; refine Kd.R_append k66 (w0 := w) w.heap.size rfl (.tmp 65) (.tmp 67) 41 66 (.agg #[.int .u64 0, .int .i64 0, .int .i64 0, .slice none 0 0, .slice none 0 0]) 72 rfl Tryz.underlying41 info66r rfl (by decide) (by omega) (.slice Av O.length cv) O o [.int .u64 o.f0, .int .i64 o.f1, .int .i64 o.f2, .slice A3 o.f3.length c3, .slice A4 o.f4.length c4] (fun _ => True) (fun k => True ∧ some k ≠ (Value.slice Av O.length cv).ownBlock) rfl (by first | (go_simp; done) | (go_simp; rfl)) HM.out (fun _ hk => ⟨trivial, hk.2⟩) (fun _ _ => trivial) HG1.out.r0 HG1.out.bel (below_size HG1.out.bel) hlen ?_; intro v1 w6 ho hb hg hat; obtain ⟨Aw, cw, rfl⟩ := Kd.R_slice ho; have hk6 := blk_grown HG1.out.blk hg (Kd.R_ne HG1.out.r0 HG1.out.blk (by decide)); have hc6 : w6.cell? ⟨gq, 0, none⟩ = some (.slice Av O.length cv) := (blk_cell hk6 0).trans rfl; have hf6 : w6.frozen? ⟨gq, 0, none⟩ = false := blk_frozen hk6 0; have HG3 := Aside0.mk (HG1.out.push0 (Below.refl _ _) ho hb hg); clear ho hb hg hat hk6))
       refine ⟨⟨i + 1, gr2, o.f0, ser lastP step, a', e', pl', .slice Aw (O.length + 1) cw, O ++ [o], P ++ [⟨ser lastP step, o.f1, o.f2, o.f3, o.f4⟩], rfl, rfl, by simp, by omega, ⟨by have h := HG3.out; rw [show (O ++ [o]).length = O.length + 1 by simp] at h; exact h⟩, ⟨Lv.imp HL1.out (fun p => by simp only [List.append_assoc, List.singleton_append])⟩, ⟨by rw [← hgr2]; exact HR1.out⟩, ⟨by simp [HN.out]⟩⟩, ?_⟩
       simp [intOf]
       omega
      ·go_wp2_with (first | (at_builtin; refine Kd.R_append k66 (w0 := w) w.heap.size rfl (.tmp 65) (.tmp 67) 41 66 (.agg #[.int .u64 0, .int .i64 0, .int .i64 0, .slice none 0 0, .slice none 0 0]) 72 rfl Tryz.underlying41 info66r rfl (by decide) (by omega) (.slice Av O.length cv) O o [.int .u64 o.f0, .int .i64 o.f1, .int .i64 o.f2, .slice A3 o.f3.length c3, .slice A4 o.f4.length c4] (fun _ => True) (fun k => True ∧ some k ≠ (Value.slice Av O.length cv).ownBlock) rfl (by first | (go_simp; done) | (go_simp; rfl)) HM.out (fun _ hk => ⟨trivial, hk.2⟩) (fun _ _ => trivial) HG1.out.r0 HG1.out.bel (below_size HG1.out.bel) hlen ?_; intro v1 w6 ho hb hg hat; obtain ⟨Aw, cw, rfl⟩ := Kd.R_slice ho; have hk6 := blk_grown HG1.out.blk hg (Kd.R_ne HG1.out.r0 HG1.out.blk (by decide)); have hc6 : w6.cell? ⟨gq, 0, none⟩ = some (.slice Av O.length cv) := (blk_cell hk6 0).trans rfl; have hf6 : w6.frozen? ⟨gq, 0, none⟩ = false := blk_frozen hk6 0; have HG3 := Aside0.mk (HG1.out.push0 (Below.refl _ _) ho hb hg); clear ho hb hg hat hk6))
       refine ⟨⟨i + 1, true, o.f0, ser lastP step, a', e', pl', .slice Aw (O.length + 1) cw, O ++ [o], P ++ [⟨ser lastP step, o.f1, o.f2, o.f3, o.f4⟩], rfl, rfl, by simp, by omega, ⟨by have h := HG3.out; rw [show (O ++ [o]).length = O.length + 1 by simp] at h; exact h⟩, ⟨Lv.imp HL1.out (fun p => by simp only [List.append_assoc, List.singleton_append])⟩, ⟨by exact HR1.out⟩, ⟨by simp [HN.out]⟩⟩, ?_⟩
       simp [intOf]
       omega
     ·go_wp2_with (fail)
      go_meet
      exact ⟨gr, last, lastP, a, e, pl, v0, O, P, rfl, by have := HN.out; omega, HG, ⟨by
       rcases HL.out with ⟨p, -, -, h, -⟩ | h
       ·exact absurd h he
       ·exact .inr h⟩, HR⟩
    ·have p1 : ¬ (i : Int) < (N : Int) := by omega
     go_wp2_with (fail)
     go_meet
     exact ⟨gr, last, lastP, a, e, pl, v0, O, P, rfl, by have := HN.out; omega, HG, ⟨Lv.imp HL.out (fun p => by rw [show N - i = 0 by omega]; simp [many, Res.bind])⟩, HR⟩
  case rest =>
   clear HG3 HL2
   obtain ⟨gr, last, lastP, a, e, pl, v0, O, P, rfl, hO, HG, HL, HR⟩ := hcut
   have HN := Aside0.mk (tmany_hand HBY.out hl HG.out.tx HG.out.bel HL.out)
   go_wp2_with (fail)
   refine HN.out.mono ?_
   rintro en w3 ⟨M, a3, e3, pl3, rfl, hM, hL3, ts⟩
   have HG4 := Aside0.mk (HG.out.ts ts)
   have HL4 := Aside0.mk hL3
   clear HN HG HL ts hL3
   go_upto_block 2 with fail
   go_cut [] from 13 to 108 (fun wx => ∃ (a e pl : Int) (v1 : Value) (S : List (List (List Int))), Aside0 (Rq w bs (w.heap.size + 1) gq a e pl v0 v1 (.slice none 0 0) (.slice none 0 0) (.slice none 0 0) n O S [] [] [] wx) ∧ Aside0 (Lv bs F (fun p => restH bs n P S p) a e pl))
   case first =>
    go_wp2_with (fail)
    go_loopw [13] (fun u13 wr => ∃ (i : Nat) (a e pl : Int) (v1 : Value) (S : List (List (List Int))), u13 = .int .i64 i ∧ i ≤ M ∧ Aside0 (S.length = i) ∧ Aside0 (Rq w bs (w.heap.size + 1) gq a e pl v0 v1 (.slice none 0 0) (.slice none 0 0) (.slice none 0 0) n O S [] [] [] wr) ∧ Aside0 (Lv bs F (fun p => (many (frames bs) (M - i) () p).bind fun s p => restH bs n P (S ++ s.1) p) a e pl)) (fun i _ => M - (intOf i).toNat)
    case atStart => exact ⟨0, a3, e3, pl3, _, [], rfl, Nat.zero_le _, ⟨rfl⟩, HG4, HL4⟩
    case round =>
     clear HG4 HL4
     obtain ⟨i, a, e, pl, v1, S, rfl, hi, HSI, HG, HL⟩ := hrel
     have htc : wr.cell? ⟨w.heap.size + 1, 2, none⟩ = some (.int .i64 e) := by
      obtain ⟨A0, c0, hbk, -, -⟩ := HG.out.tx
      exact cellS69_2 hbk
     by_cases hlt : i < M
     ·have p1 : (i : Int) < (M : Int) := by omega
      by_cases he : e = 0
      ·have HO := Aside0.mk (tmany_hand (K := fun m p => (many (ints bs 0) m () p).bind fun f p => (many (frames bs) (M - (i + 1)) () p).bind fun s p => restH bs n P (S ++ f.1 :: s.1) p) HBY.out hl HG.out.tx HG.out.bel (Lv.imp HL.out (fun p => by rw [show M - i = (M - (i + 1)) + 1 by omega, many_step]; simp only [frames, lst, Res.bind_assoc, Res.ite_bind, Res.bad_bind])))
       subst he
       go_wp2_with (fail)
       refine HO.out.mono ?_
       rintro en w5 ⟨m, a5, e5, pl5, rfl, hm, hL5, ts⟩
       have HG5 := Aside0.mk (HG.out.ts ts)
       have HL5 := Aside0.mk hL5
       clear HO HG HL ts hL5 htc
       go_upto_block 4 with fail
       go_cut [14, 16] from 86 to 102 (fun u14 u16 wx => ∃ (a e pl : Int) (f : List (List Int)), Aside0 (Ts w w5 (w.heap.size + 1) bs a e pl wx) ∧ Aside0 ((Kd.slice 3 (Kd.int .i64)).R 25 wx w5.heap.size (fun _ => True) u14 f) ∧ Aside0 (Lv bs F (fun p => (many (frames bs) (M - (i + 1)) () p).bind fun s p => restH bs n P (S ++ f :: s.1) p) a e pl))
       case first =>
        go_wp2_with (fail)
        go_loopw [14, 16] (fun u14 u16 wr => ∃ (q : Nat) (a e pl : Int) (f : List (List Int)), u16 = .int .i64 q ∧ q ≤ m ∧ Aside0 (f.length = q) ∧ Aside0 (Ts w w5 (w.heap.size + 1) bs a e pl wr) ∧ Aside0 ((Kd.slice 3 (Kd.int .i64)).R 25 wr w5.heap.size (fun _ => True) u14 f) ∧ Aside0 (Lv bs F (fun p => (many (ints bs 0) (m - q) () p).bind fun g p => (many (frames bs) (M - (i + 1)) () p).bind fun s p => restH bs n P (S ++ (f ++ g.1) :: s.1) p) a e pl)) (fun _ q _ => m - (intOf q).toNat)
        case atStart => exact ⟨0, a5, e5, pl5, [], rfl, Nat.zero_le _, ⟨rfl⟩, ⟨⟨HG5.out.tx, HG5.out.bel, KeepBut.refl _ _ _⟩⟩, ⟨Kd.R_nil _ _ _ _ _⟩, HL5⟩
        case round =>
         clear HL5
         obtain ⟨q, a, e, pl, f, rfl, hq, HFQ, HT, HV, HL⟩ := hrel
         have htc : wr.cell? ⟨w.heap.size + 1, 2, none⟩ = some (.int .i64 e) := by
          obtain ⟨A0, c0, hbk, -, -⟩ := HT.out.tx
          exact cellS69_2 hbk
         by_cases hlt3 : q < m
         ·have p3 : (q : Int) < (m : Int) := by omega
          by_cases he : e = 0
          ·subst he
           have HO := Aside0.mk (tints_hand (K := fun g p => (many (ints bs 0) (m - (q + 1)) () p).bind fun y p => (many (frames bs) (M - (i + 1)) () p).bind fun s p => restH bs n P (S ++ (f ++ g :: y.1) :: s.1) p) HBY.out hl 0 (by omega) HT.out.tx HT.out.bel (Lv.imp HL.out (fun p => by rw [show m - q = (m - (q + 1)) + 1 by omega, many_step])))
           have hws : w5.heap.size ≤ wr.heap.size := HT.out.keep.1
           have h0s : w.heap.size ≤ w5.heap.size := below_size HG5.out.bel
           go_wp2_with (fail)
           refine HO.out.mono ?_
           rintro en w7 ⟨y, v, a', e', pl', rfl, hyl, hR, hL, ts⟩
           obtain ⟨Ag, cg, rfl⟩ := Kd.R_slice hR
           obtain ⟨Af, cf, rfl⟩ := Kd.R_slice HV.out
           have HT1 := Aside0.mk (HT.out.next ts)
           have HV1 := Aside0.mk (row_ts HV.out HT.out.tx ts.keep (by decide))
           have HL1 := Aside0.mk hL
           have HM : Aside0 ((Kd.slice 3 (Kd.int .i64)).M w7 w5.heap.size (fun k => True ∧ some k ≠ (Value.slice Af f.length cf).ownBlock) y [.slice Ag y.length cg]) := ⟨⟨_, rfl, Kd.R_apartR (Kd.R_lower hR hws) HV1.out (by decide)⟩⟩
           have hlen : (f.length + 1) * 24 ≤ 140737488355328 := by have := HFQ.out; omega
           have hbase : w5.heap.size ≤ w7.heap.size := Nat.le_trans hws ts.keep.1
           clear HO HT HV HL hR hL ts htc
           go_wp2_with (first | (at_builtin; refine Kd.R_append (Kd.slice 3 (Kd.int .i64)) (w0 := w7) w5.heap.size rfl (.tmp 98) (.tmp 101) 26 25 (.slice none 0 0) 24 rfl Tryz.underlying26 info25r rfl (by decide) (by omega) (.slice Af f.length cf) f y [.slice Ag y.length cg] (fun _ => True) (fun k => True ∧ some k ≠ (Value.slice Af f.length cf).ownBlock) rfl (by first | (go_simp; done) | (go_simp; rfl)) HM.out (fun _ hk => ⟨trivial, hk.2⟩) (fun _ _ => trivial) HV1.out (Below.refl _ _) hbase hlen ?_; intro v1 w8 ho hb hg hat; obtain ⟨Aw, cw, rfl⟩ := Kd.R_slice ho; have HT2 := Aside0.mk (HT1.out.grow hg hb h0s (HT1.out.tx.grown hg (IsS69.own_ne HT1.out.tx HV1.out (by decide)))); have HV2 := Aside0.mk ho; clear ho hb hg hat))
           refine ⟨⟨q + 1, a', e', pl', f ++ [y], by simp, by omega, ⟨by simp [HFQ.out]⟩, HT2, ⟨by have h := HV2.out; rw [show (f ++ [y]).length = f.length + 1 by simp] at h; exact h⟩, ⟨Lv.imp HL1.out (fun p => by simp only [List.append_assoc, List.singleton_append])⟩⟩, ?_⟩
           simp [intOf]
           omega
          ·go_wp2_with (fail)
           go_meet
           exact ⟨a, e, pl, f, HT, HV, ⟨by
            rcases HL.out with ⟨p, -, -, h, -⟩ | h
            ·exact absurd h he
            ·exact .inr h⟩⟩
         ·have p3 : ¬ (q : Int) < (m : Int) := by omega
          go_wp2_with (fail)
          go_meet
          exact ⟨a, e, pl, f, HT, HV, ⟨Lv.imp HL.out (fun p => by rw [show m - q = 0 by omega]; simp [many, Res.bind])⟩⟩
       case rest =>
        clear HL5
        obtain ⟨a, e, pl, f, HT, HV, HL⟩ := hcut
        have h0s : w.heap.size ≤ w5.heap.size := below_size HG5.out.bel
        have HG6 := Aside0.mk (HG5.out.ts HT.out)
        obtain ⟨Af, cf, rfl⟩ := Kd.R_slice HV.out
        obtain ⟨As, cs, rfl⟩ := Kd.R_slice HG6.out.r1
        have HM := Aside0.mk (show (Kd.slice 25 (Kd.slice 3 (Kd.int .i64))).M _ w.heap.size (fun k => True ∧ some k ≠ (Value.slice As S.length cs).ownBlock) f [.slice Af f.length cf] from ⟨_, rfl, Kd.R_apartR (Kd.R_lower HV.out h0s) HG6.out.r1 (by decide)⟩)
        have hgc1 := (blk_cell HG6.out.blk 1).trans (show _ = some (Value.slice As S.length cs) from rfl)
        have hlen : (S.length + 1) * 24 ≤ 140737488355328 := by have := HSI.out; omega
        clear HG5 HT HV
        go_wp2_with (first | (at_builtin; refine Kd.R_append (Kd.slice 25 (Kd.slice 3 (Kd.int .i64))) (w0 := w) w.heap.size rfl (.tmp 104) (.tmp 106) 34 26 (.slice none 0 0) 24 rfl Tryz.underlying34 info26r rfl (by decide) (by omega) (.slice As S.length cs) S f [.slice Af f.length cf] (fun _ => True) (fun k => True ∧ some k ≠ (Value.slice As S.length cs).ownBlock) rfl (by first | (go_simp; done) | (go_simp; rfl)) HM.out (fun _ hk => ⟨trivial, hk.2⟩) (fun _ _ => trivial) HG6.out.r1 HG6.out.bel (below_size HG6.out.bel) hlen ?_; intro v1 w8 ho hb hg hat; obtain ⟨Aw, cw, rfl⟩ := Kd.R_slice ho; have hk6 := blk_grown HG6.out.blk hg (Kd.R_ne HG6.out.r1 HG6.out.blk (by decide)); have hc6 : w8.cell? ⟨gq, 1, none⟩ = some (.slice As S.length cs) := (blk_cell hk6 1).trans rfl; have hf6 : w8.frozen? ⟨gq, 1, none⟩ = false := blk_frozen hk6 1; have HG7 := Aside0.mk (HG6.out.push1 (Below.refl _ _) ho hb hg); clear ho hb hg hat hk6))
        go_roundw
        case rel => exact ⟨i + 1, a, e, pl, .slice Aw (S.length + 1) cw, S ++ [f], by go_num, by omega, ⟨by simp [HSI.out]⟩, ⟨by have h := HG7.out; rw [show (S ++ [f]).length = S.length + 1 by simp] at h; exact h⟩, ⟨Lv.imp HL.out (fun p => by simp only [List.append_assoc, List.singleton_append])⟩⟩
        case measure => simp [intOf]; omega
      ·go_wp2_with (fail)
       go_meet
       exact ⟨a, e, pl, v1, S, HG, ⟨by
        rcases HL.out with ⟨p, -, -, h, -⟩ | h
        ·exact absurd h he
        ·exact .inr h⟩⟩
     ·have p1 : ¬ (i : Int) < (M : Int) := by omega
      go_wp2_with (fail)
      go_meet
      exact ⟨a, e, pl, v1, S, HG, ⟨Lv.imp HL.out (fun p => by rw [show M - i = 0 by omega]; simp [many, Res.bind])⟩⟩
   case rest =>
    clear HG4 HL4
    obtain ⟨a, e, pl, v1, S, HG, HL⟩ := hcut
    have HN := Aside0.mk (tints_hand (K := fun h p => restQ bs n P S h p) HBY.out hl 1 (by omega) HG.out.tx HG.out.bel HL.out)
    go_wp2_with (fail)
    refine HN.out.mono ?_
    rintro en w3 ⟨H, v2, a3, e3, pl3, rfl, hHl, hR, hL3, ts⟩
    obtain ⟨A2, c2, rfl⟩ := Kd.R_slice hR
    have HG1 := Aside0.mk (HG.out.ts ts)
    have hgf : w3.frozen? ⟨gq, 2, none⟩ = false := blk_frozen HG1.out.blk 2
    have hgc : w3.cell? ⟨gq, 2, none⟩ = some (.slice none 0 0) := (blk_cell HG1.out.blk 2).trans rfl
    have HG2 := Aside0.mk (HG1.out.set2 (Kd.R_lower hR (below_size HG.out.bel)))
    have HN2 := Aside0.mk (tints_hand (K := fun q p => restE bs ⟨P, S, H, [], q, n⟩ p) HBY.out hl 0 (by omega) HG2.out.tx HG2.out.bel hL3)
    have HHL := Aside0.mk hHl
    clear HN HG HL ts hL3 hR HG1 hHl
    go_wp2_with (fail)
    refine HN2.out.mono ?_
    rintro en w4 ⟨Q, v4, a4, e4, pl4, rfl, hQl, hR, hL4, ts⟩
    obtain ⟨A4, c4, rfl⟩ := Kd.R_slice hR
    have HG3 := Aside0.mk (HG2.out.ts ts)
    have hgf : w4.frozen? ⟨gq, 4, none⟩ = false := blk_frozen HG3.out.blk 4
    have hgc : w4.cell? ⟨gq, 4, none⟩ = some (.slice none 0 0) := (blk_cell HG3.out.blk 4).trans rfl
    have HG4 := Aside0.mk (HG3.out.set4 (Kd.R_lower hR (below_size HG2.out.bel)))
    have HL4 := Aside0.mk hL4
    have HQL := Aside0.mk hQl
    clear HN2 HG2 ts hL4 hR HG3 hQl
    obtain ⟨A0, c0, rfl, hl0, hC0⟩ := Kd.R_reads HG4.out.r0
    obtain ⟨A1, c1, rfl, hl1, hC1⟩ := Kd.R_reads HG4.out.r1
    obtain ⟨A2', c2', e2, hl2, hC2⟩ := Kd.R_reads HG4.out.r2
    injection e2 with e2 e3 e4
    subst e2 e4
    obtain ⟨A4', c4', e2, hl4, hC4⟩ := Kd.R_reads HG4.out.r4
    injection e2 with e2 e3 e4
    subst e2 e4
    have HN := Aside0.mk (show Calls Tryz.prog 20 #[.agg #[.slice A0 O.length c0, .slice A1 S.length c1, .slice A2 H.length c2, .slice none 0 0, .slice A4 Q.length c4, .int .u64 n]] _ (fun e w' => ∃ v, e = .returned v ∧ (Kd.int .i64).R 3 w' _ (fun _ => True) v (finals O) ∧ Below _ _ w') from finals_hand ⟨A0, A1, A2, none, A4, c0, c1, c2, 0, c4⟩ ⟨O, S, H, [], Q, n⟩ (by show O.length ≤ 1000000; omega) _ hC0)
    have k0 := (blk_cell HG4.out.blk 0).trans (show _ = some (Value.slice A0 O.length c0) from rfl)
    have k1 := (blk_cell HG4.out.blk 1).trans (show _ = some (Value.slice A1 S.length c1) from rfl)
    have k2 := (blk_cell HG4.out.blk 2).trans (show _ = some (Value.slice A2 H.length c2) from rfl)
    have k3 := (blk_cell HG4.out.blk 3).trans (show _ = some (Value.slice none 0 0) from rfl)
    have k4 := (blk_cell HG4.out.blk 4).trans (show _ = some (Value.slice A4 Q.length c4) from rfl)
    have k5 := (blk_cell HG4.out.blk 5).trans (show _ = some (Value.int .u64 n) from rfl)
    have HLL := Aside0.mk (And.intro hl0 (And.intro hl1 (And.intro hl2 hl4)))
    clear hl0 hl1 hl2 hl4 hC0 hC1 hC2 hC4
    go_wp2_with (fail)
    refine HN.out.mono ?_
    rintro en w5 ⟨v3, rfl, hR, hb5⟩
    obtain ⟨A3, c3, rfl⟩ := Kd.R_slice hR
    have HG5 := Aside0.mk (HG4.out.below hb5)
    have hgf : w5.frozen? ⟨gq, 3, none⟩ = false := blk_frozen HG5.out.blk 3
    have hgc : w5.cell? ⟨gq, 3, none⟩ = some (.slice none 0 0) := (blk_cell HG5.out.blk 3).trans rfl
    have HG6 := Aside0.mk (HG5.out.set3 (Kd.R_lower hR (below_size HG4.out.bel)))
    clear HN HG5 HG4 hb5 hR k0 k1 k2 k3 k4 k5
    have HFI := Aside0.mk (finals_like O P 0 HR.out.like)
    by_cases he : e4 = 0
    ·subst he
     obtain ⟨p, rfl, hp, hF⟩ : ∃ p : Nat, a4 = p ∧ p ≤ bs.length ∧ F = restE bs ⟨P, S, H, [], Q, n⟩ p := by
      rcases HL4.out with ⟨p, h1, h2, -, h4⟩ | ⟨q, -, h, -⟩
      ·exact ⟨p, h1, h2, h4⟩
      ·exact absurd rfl h
     have HF4 := Aside0.mk (show F = .ok ⟨P, S, H, [], Q, n⟩ p from hF)
     clear hF
     have hwr : IntKind.i64.wrap ((bs.length : Int) - (p : Int)) = (bs.length : Int) - (p : Int) := by rw [IntKind.wrap_i64]; omega
     by_cases h4 : bs.length - p < 4
     ·have HF1 : Aside0 (F.bind (endK bs) = .bad bs.length 160) := ⟨by rw [HF4.out]; show endK bs _ p = _; unfold endK endR; rw [if_pos h4]; rfl⟩
      have HFA := Aside0.mk (tfault0_any ((bs.length : Int)) 160 HG6.out.tx HG6.out.bel)
      obtain ⟨A6, c6, hbk, -, -⟩ := HG6.out.tx
      have t1 := cellS69_1 hbk
      have t2 := cellS69_2 hbk
      have t3 := cellS69_3 hbk
      clear hbk
      have p1 : (bs.length : Int) - (p : Int) < 4 := by omega
      have d1 : decide ((bs.length : Int) - (p : Int) < 4) = true := decide_eq_true p1
      clear h4
      go_wp2_with (fail)
      refine HFA.out.mono ?_
      rintro en w6 ⟨rfl, ts⟩
      have HG7 := Aside0.mk (HG6.out.ts ts)
      clear ts HFA t1 t2 t3
      obtain ⟨A6, c6, hbk, -, -⟩ := HG7.out.tx
      have t1 := cellS69_1 hbk
      have t2 := cellS69_2 hbk
      have t3 := cellS69_3 hbk
      clear hbk
      have r0 := (blk_cell HG7.out.res 0).trans (show _ = some (Value.slice none 0 0) from rfl)
      have r1 := (blk_cell HG7.out.res 1).trans (show _ = some (Value.slice none 0 0) from rfl)
      have r2 := (blk_cell HG7.out.res 2).trans (show _ = some (Value.slice none 0 0) from rfl)
      have r3 := (blk_cell HG7.out.res 3).trans (show _ = some (Value.slice none 0 0) from rfl)
      have r4 := (blk_cell HG7.out.res 4).trans (show _ = some (Value.slice none 0 0) from rfl)
      have r5 := (blk_cell HG7.out.res 5).trans (show _ = some (Value.int .u64 0) from rfl)
      have q0 := blk_frozen HG7.out.res 0
      have q1 := blk_frozen HG7.out.res 1
      have q2 := blk_frozen HG7.out.res 2
      have q3 := blk_frozen HG7.out.res 3
      have q4 := blk_frozen HG7.out.res 4
      have q5 := blk_frozen HG7.out.res 5
      have HD := Aside0.mk HG7.out.dead
      go_wp2_with (fail)
      go_region
      go_wp2_with (fail)
      refine post_world (fun w2 => Below w.heap.size w w2 ∧ w2.heap[w.heap.size]? = some (.cells emptyG 44 (0, 0))) HD.out ?_
      rintro w2 ⟨hb, hk⟩
      have z0 := (blk_cell hk 0).trans (show _ = some (Value.slice none 0 0) from rfl)
      have z1 := (blk_cell hk 1).trans (show _ = some (Value.slice none 0 0) from rfl)
      have z2 := (blk_cell hk 2).trans (show _ = some (Value.slice none 0 0) from rfl)
      have z3 := (blk_cell hk 3).trans (show _ = some (Value.slice none 0 0) from rfl)
      have z4 := (blk_cell hk 4).trans (show _ = some (Value.slice none 0 0) from rfl)
      have z5 := (blk_cell hk 5).trans (show _ = some (Value.int .u64 0) from rfl)
      refine bodyPost_ret (v := .tuple #[.agg emptyG, .int .i64 (bs.length : Int), .int .i64 160]) (by simp [results, Tryz.results5, go_sem, z0, z1, z2, z3, z4, z5]) rfl ?_
      rw [HF1.out]
      exact ⟨hb, rfl⟩
     ·have p1 : ¬ (bs.length : Int) - (p : Int) < 4 := by omega
      have d1 : decide ((bs.length : Int) - (p : Int) < 4) = false := decide_eq_false p1
      have HP4 := Aside0.mk h4
      clear h4
      obtain ⟨A6, c6, hbk, -, -⟩ := HG6.out.tx
      have t1 := cellS69_1 hbk
      have t2 := cellS69_2 hbk
      have t3 := cellS69_3 hbk
      clear hbk
      go_wp2_with (fail)
      clear t1 t2 t3
      go_loopw [17, 18] (fun u17 u18 wr => ((∃ j d : Nat, j + d = 3 ∧ u18 = .int .i64 j ∧ u17 = .int .u32 ((v4 bs p d : Nat) : Int)) ∨ (u18 = .int .i64 (-1) ∧ u17 = .int .u32 ((v4 bs p 4 : Nat) : Int))) ∧ Aside0 (Rq w bs (w.heap.size + 1) gq (p : Int) 0 pl4 (.slice A0 O.length c0) (.slice A1 S.length c1) (.slice A2 H.length c2) (.slice A3 (finals O).length c3) (.slice A4 Q.length c4) n O S H (finals O) Q wr)) (fun _ u18 _ => (intOf u18 + 1).toNat)
      case atStart => exact ⟨.inl ⟨3, 0, rfl, rfl, rfl⟩, HG6⟩
      case round =>
       clear HG6
       obtain ⟨hor, HG⟩ := hrel
       rcases hor with ⟨j, d, hjd, rfl, rfl⟩ | ⟨rfl, rfl⟩
       ·have hlt : p + j < bs.length := by have := HP4.out; omega
        obtain ⟨hx, hc⟩ := byte_at HBY.out hlt
        obtain ⟨ad, cs, rfl, hcl, hK, hcc⟩ := Kd.C_get HC.out 0 ((p + j : Nat) : Int) (by omega) (by omega)
        rw [Int.toNat_natCast] at hK hcc
        have hcell : wr.cell? (ad.add (p + j)) = some (.int .u8 (bs.getD (p + j) 0)) := pw_cell_below HG.out.bel (by
         have := hcc 0 (.int .u8 (bs.getD (p + j) 0)) (by rw [show cs = _ from hK]; rfl)
         simpa [Kd.int, Kd.scalar] using this)
        rw [hx] at hcell
        clear hcl hK hcc hx
        have hV : 256 * v4 bs p d ≤ 4294967040 := v4_small HBY.out (by have := HP4.out; omega) (by omega)
        have HVN : Aside0 (v4 bs p (d + 1) = 256 * v4 bs p d + (bs.getD (p + j) 0).toNat) := ⟨by show 256 * v4 bs p d + (bs.getD (p + (3 - d)) 0).toNat = _; rw [show 3 - d = j by omega]⟩
        generalize (bs.getD (p + j) 0).toNat = y at hcell hc HVN
        obtain ⟨V, hVV⟩ : ∃ V, v4 bs p d = V := ⟨_, rfl⟩
        rw [hVV] at hV HVN ⊢
        clear hVV
        have hw : IntKind.i64.wrap ((p : Int) + (j : Int)) = ((p + j : Nat) : Int) := by rw [IntKind.wrap_i64]; omega
        have hw1 : IntKind.u32.wrap (256 * (V : Int)) = 256 * (V : Int) := by rw [IntKind.wrap_u32]; omega
        have hw2 : IntKind.u32.wrap (256 * (V : Int) + (y : Int)) = 256 * (V : Int) + (y : Int) := by rw [IntKind.wrap_u32]; omega
        have hw3 : IntKind.u32.wrap (y : Int) = (y : Int) := by rw [IntKind.wrap_u32]; omega
        have q1 : (0 : Int) ≤ (j : Int) := by omega
        have q2 : (0 : Int) ≤ ((p + j : Nat) : Int) := by omega
        have q3 : ((p + j : Nat) : Int) < (bs.length : Int) := by omega
        obtain ⟨A6, c6, hbk, -, -⟩ := HG.out.tx
        have t1 := cellS69_1 hbk
        have t2 := cellS69_2 hbk
        have t3 := cellS69_3 hbk
        clear hbk
        go_wp2_with (fail)
        refine ⟨⟨?_, HG⟩, ?_⟩
        ·by_cases hj : j = 0
         ·obtain rfl : d = 3 := by omega
          exact .inr ⟨by rw [hj]; rfl, by rw [HVN.out]; simp⟩
         ·refine .inl ⟨j - 1, d + 1, by omega, by rw [show ((j - 1 : Nat) : Int) = (j : Int) - 1 by omega], ?_⟩
          rw [HVN.out]
          simp
        ·simp [intOf]
       ·obtain ⟨N4, hN4⟩ : ∃ N4, fnv (bs.take p) = N4 := ⟨_, rfl⟩
        have hlt4 : N4 < 4294967296 := by rw [← hN4]; exact fnv_lt _
        have HFV := Aside0.mk (four_val HBY.out HP4.out hlt4)
        obtain ⟨V, hV⟩ : ∃ V, v4 bs p 4 = V := ⟨_, rfl⟩
        rw [hV] at HFV ⊢
        clear hV
        have hlen : (bs.take p).length = p := by rw [List.length_take]; omega
        have HN4 := Aside0.mk hN4
        have HS := Aside0.mk (bsum B c (bs.take p) (fun x hx => HBY.out x (List.mem_of_mem_take hx)) (by omega) wr (Kd.C_take (m := p) (Kd.C_below HC.out HG.out.bel) hp))
        rw [hN4] at HS
        rw [hlen] at HS
        have hcut := cut_is (A := B) (c := c) (l := bs) p hp hlc
        clear hlen hN4
        obtain ⟨A6, c6, hbk, -, -⟩ := HG.out.tx
        have t1 := cellS69_1 hbk
        have t2 := cellS69_2 hbk
        have t3 := cellS69_3 hbk
        clear hbk
        go_wp2_with (fail)
        refine HS.out.mono ?_
        rintro en w6 ⟨rfl, hd6⟩
        have HG7 := Aside0.mk (HG.out.below hd6)
        clear hd6 HS HG t1 t2 t3 hcut
        by_cases hs : V = N4
        ·subst hs
         have HT4 : Aside0 ((bs.drop p).take 4 = sb V) := ⟨HFV.out.2 rfl⟩
         have hw4 : IntKind.i64.wrap ((p : Int) + 4) = ((p + 4 : Nat) : Int) := by rw [IntKind.wrap_i64]; omega
         clear HFV
         by_cases h5 : p + 4 < bs.length
         ·have HF1 : Aside0 (F.bind (endK bs) = .bad (p + 4) 162) := ⟨by rw [HF4.out]; show endK bs _ p = _; unfold endK endR; rw [if_neg HP4.out, HN4.out, if_pos HT4.out, if_pos h5]; rfl⟩
          have p5 : ((p + 4 : Nat) : Int) < (bs.length : Int) := by omega
          have d5 : decide (((p + 4 : Nat) : Int) < (bs.length : Int)) = true := decide_eq_true p5
          have HFA := Aside0.mk (tfault0_any (((p + 4 : Nat) : Int)) 162 HG7.out.tx HG7.out.bel)
          obtain ⟨A6, c6, hbk, -, -⟩ := HG7.out.tx
          have t1 := cellS69_1 hbk
          have t2 := cellS69_2 hbk
          have t3 := cellS69_3 hbk
          clear hbk
          go_wp2_with (fail)
          refine HFA.out.mono ?_
          rintro en w6 ⟨rfl, ts⟩
          have HG8 := Aside0.mk (HG7.out.ts ts)
          clear ts HFA t1 t2 t3
          obtain ⟨A6, c6, hbk, -, -⟩ := HG8.out.tx
          have t1 := cellS69_1 hbk
          have t2 := cellS69_2 hbk
          have t3 := cellS69_3 hbk
          clear hbk
          have r0 := (blk_cell HG8.out.res 0).trans (show _ = some (Value.slice none 0 0) from rfl)
          have r1 := (blk_cell HG8.out.res 1).trans (show _ = some (Value.slice none 0 0) from rfl)
          have r2 := (blk_cell HG8.out.res 2).trans (show _ = some (Value.slice none 0 0) from rfl)
          have r3 := (blk_cell HG8.out.res 3).trans (show _ = some (Value.slice none 0 0) from rfl)
          have r4 := (blk_cell HG8.out.res 4).trans (show _ = some (Value.slice none 0 0) from rfl)
          have r5 := (blk_cell HG8.out.res 5).trans (show _ = some (Value.int .u64 0) from rfl)
          have q0 := blk_frozen HG8.out.res 0
          have q1 := blk_frozen HG8.out.res 1
          have q2 := blk_frozen HG8.out.res 2
          have q3 := blk_frozen HG8.out.res 3
          have q4 := blk_frozen HG8.out.res 4
          have q5 := blk_frozen HG8.out.res 5
          have HD := Aside0.mk HG8.out.dead
          go_wp2_with (fail)
          go_region
          go_wp2_with (fail)
          refine post_world (fun w2 => Below w.heap.size w w2 ∧ w2.heap[w.heap.size]? = some (.cells emptyG 44 (0, 0))) HD.out ?_
          rintro w2 ⟨hb, hk⟩
          have z0 := (blk_cell hk 0).trans (show _ = some (Value.slice none 0 0) from rfl)
          have z1 := (blk_cell hk 1).trans (show _ = some (Value.slice none 0 0) from rfl)
          have z2 := (blk_cell hk 2).trans (show _ = some (Value.slice none 0 0) from rfl)
          have z3 := (blk_cell hk 3).trans (show _ = some (Value.slice none 0 0) from rfl)
          have z4 := (blk_cell hk 4).trans (show _ = some (Value.slice none 0 0) from rfl)
          have z5 := (blk_cell hk 5).trans (show _ = some (Value.int .u64 0) from rfl)
          refine bodyPost_ret (v := .tuple #[.agg emptyG, .int .i64 ((p + 4 : Nat) : Int), .int .i64 162]) (by simp [results, Tryz.results5, go_sem, z0, z1, z2, z3, z4, z5]) rfl ?_
          rw [HF1.out]
          exact ⟨hb, rfl⟩
         ·have HE : Aside0 (F.bind (endK bs) = if okB (whole ⟨P, S, H, [], Q, n⟩) = true then .ok (whole ⟨P, S, H, [], Q, n⟩) 0 else .bad 0 164) := ⟨by rw [HF4.out]; show endK bs _ p = _; unfold endK endR; rw [if_neg HP4.out, HN4.out, if_pos HT4.out, if_neg h5]; rfl⟩
          have p5 : ¬ ((p + 4 : Nat) : Int) < (bs.length : Int) := by omega
          have d5 : decide (((p + 4 : Nat) : Int) < (bs.length : Int)) = false := decide_eq_false p5
          clear h5
          cases gr
          case true =>
           have HF1 : Aside0 (F.bind (endK bs) = .bad 0 164) := ⟨by rw [HE.out, ok_high (HR.out.over rfl)]; rfl⟩
           have HFA := Aside0.mk (tfault0_any (0) 164 HG7.out.tx HG7.out.bel)
           obtain ⟨A6, c6, hbk, -, -⟩ := HG7.out.tx
           have t1 := cellS69_1 hbk
           have t2 := cellS69_2 hbk
           have t3 := cellS69_3 hbk
           clear hbk
           go_wp2_with (fail)
           refine HFA.out.mono ?_
           rintro en w6 ⟨rfl, ts⟩
           have HG8 := Aside0.mk (HG7.out.ts ts)
           clear ts HFA t1 t2 t3
           obtain ⟨A6, c6, hbk, -, -⟩ := HG8.out.tx
           have t1 := cellS69_1 hbk
           have t2 := cellS69_2 hbk
           have t3 := cellS69_3 hbk
           clear hbk
           have r0 := (blk_cell HG8.out.res 0).trans (show _ = some (Value.slice none 0 0) from rfl)
           have r1 := (blk_cell HG8.out.res 1).trans (show _ = some (Value.slice none 0 0) from rfl)
           have r2 := (blk_cell HG8.out.res 2).trans (show _ = some (Value.slice none 0 0) from rfl)
           have r3 := (blk_cell HG8.out.res 3).trans (show _ = some (Value.slice none 0 0) from rfl)
           have r4 := (blk_cell HG8.out.res 4).trans (show _ = some (Value.slice none 0 0) from rfl)
           have r5 := (blk_cell HG8.out.res 5).trans (show _ = some (Value.int .u64 0) from rfl)
           have q0 := blk_frozen HG8.out.res 0
           have q1 := blk_frozen HG8.out.res 1
           have q2 := blk_frozen HG8.out.res 2
           have q3 := blk_frozen HG8.out.res 3
           have q4 := blk_frozen HG8.out.res 4
           have q5 := blk_frozen HG8.out.res 5
           have HD := Aside0.mk HG8.out.dead
           go_wp2_with (fail)
           go_region
           go_wp2_with (fail)
           refine post_world (fun w2 => Below w.heap.size w w2 ∧ w2.heap[w.heap.size]? = some (.cells emptyG 44 (0, 0))) HD.out ?_
           rintro w2 ⟨hb, hk⟩
           have z0 := (blk_cell hk 0).trans (show _ = some (Value.slice none 0 0) from rfl)
           have z1 := (blk_cell hk 1).trans (show _ = some (Value.slice none 0 0) from rfl)
           have z2 := (blk_cell hk 2).trans (show _ = some (Value.slice none 0 0) from rfl)
           have z3 := (blk_cell hk 3).trans (show _ = some (Value.slice none 0 0) from rfl)
           have z4 := (blk_cell hk 4).trans (show _ = some (Value.slice none 0 0) from rfl)
           have z5 := (blk_cell hk 5).trans (show _ = some (Value.int .u64 0) from rfl)
           refine bodyPost_ret (v := .tuple #[.agg emptyG, .int .i64 0, .int .i64 164]) (by simp [results, Tryz.results5, go_sem, z0, z1, z2, z3, z4, z5]) rfl ?_
           rw [HF1.out]
           exact ⟨hb, rfl⟩
          case false =>
           obtain ⟨hOP, -⟩ := HR.out.fine rfl
           subst hOP
           have hgr := readB_ok (HF.out.trans HF4.out)
           have hchk := RefCheck_any ⟨A0, A1, A2, A3, A4, c0, c1, c2, c3, c4⟩ (whole ⟨O, S, H, [], Q, n⟩) ((graph_fits hgr).tame hl) (by have := graph_root hgr hp; omega) w6 HG7.out.rd
           clear hgr
           cases hk : okB (whole ⟨O, S, H, [], Q, n⟩) with
           | false =>
            rw [hk] at hchk
            have HF1 : Aside0 (F.bind (endK bs) = .bad 0 164) := ⟨by rw [HE.out, hk]; rfl⟩
            have HCK := Aside0.mk (show Calls Tryz.prog 22 #[.agg #[.slice A0 O.length c0, .slice A1 S.length c1, .slice A2 H.length c2, .slice A3 (finals O).length c3, .slice A4 Q.length c4, .int .u64 n]] w6 (fun e w2 => e = .returned (.int .i64 164) ∧ Below w6.heap.size w6 w2) from hchk)
            clear hchk hk HE
            obtain ⟨A6, c6, hbk, -, -⟩ := HG7.out.tx
            have t1 := cellS69_1 hbk
            have t2 := cellS69_2 hbk
            have t3 := cellS69_3 hbk
            clear hbk
            have k0 := (blk_cell HG7.out.blk 0).trans (show _ = some (Value.slice A0 O.length c0) from rfl)
            have k1 := (blk_cell HG7.out.blk 1).trans (show _ = some (Value.slice A1 S.length c1) from rfl)
            have k2 := (blk_cell HG7.out.blk 2).trans (show _ = some (Value.slice A2 H.length c2) from rfl)
            have k3 := (blk_cell HG7.out.blk 3).trans (show _ = some (Value.slice A3 (finals O).length c3) from rfl)
            have k4 := (blk_cell HG7.out.blk 4).trans (show _ = some (Value.slice A4 Q.length c4) from rfl)
            have k5 := (blk_cell HG7.out.blk 5).trans (show _ = some (Value.int .u64 n) from rfl)
            go_wp2_with (fail)
            refine HCK.out.mono ?_
            rintro en w7 ⟨rfl, hb7⟩
            have HG8 := Aside0.mk (HG7.out.below hb7)
            clear hb7 HCK HG7 t1 t2 t3 k0 k1 k2 k3 k4 k5
            have HFA := Aside0.mk (tfault0_any (0) 164 HG8.out.tx HG8.out.bel)
            obtain ⟨A6, c6, hbk, -, -⟩ := HG8.out.tx
            have t1 := cellS69_1 hbk
            have t2 := cellS69_2 hbk
            have t3 := cellS69_3 hbk
            clear hbk
            go_wp2_with (fail)
            refine HFA.out.mono ?_
            rintro en w6 ⟨rfl, ts⟩
            have HG9 := Aside0.mk (HG8.out.ts ts)
            clear ts HFA t1 t2 t3
            obtain ⟨A6, c6, hbk, -, -⟩ := HG9.out.tx
            have t1 := cellS69_1 hbk
            have t2 := cellS69_2 hbk
            have t3 := cellS69_3 hbk
            clear hbk
            have r0 := (blk_cell HG9.out.res 0).trans (show _ = some (Value.slice none 0 0) from rfl)
            have r1 := (blk_cell HG9.out.res 1).trans (show _ = some (Value.slice none 0 0) from rfl)
            have r2 := (blk_cell HG9.out.res 2).trans (show _ = some (Value.slice none 0 0) from rfl)
            have r3 := (blk_cell HG9.out.res 3).trans (show _ = some (Value.slice none 0 0) from rfl)
            have r4 := (blk_cell HG9.out.res 4).trans (show _ = some (Value.slice none 0 0) from rfl)
            have r5 := (blk_cell HG9.out.res 5).trans (show _ = some (Value.int .u64 0) from rfl)
            have q0 := blk_frozen HG9.out.res 0
            have q1 := blk_frozen HG9.out.res 1
            have q2 := blk_frozen HG9.out.res 2
            have q3 := blk_frozen HG9.out.res 3
            have q4 := blk_frozen HG9.out.res 4
            have q5 := blk_frozen HG9.out.res 5
            have HD := Aside0.mk HG9.out.dead
            go_wp2_with (fail)
            go_region
            go_wp2_with (fail)
            refine post_world (fun w2 => Below w.heap.size w w2 ∧ w2.heap[w.heap.size]? = some (.cells emptyG 44 (0, 0))) HD.out ?_
            rintro w2 ⟨hb, hk⟩
            have z0 := (blk_cell hk 0).trans (show _ = some (Value.slice none 0 0) from rfl)
            have z1 := (blk_cell hk 1).trans (show _ = some (Value.slice none 0 0) from rfl)
            have z2 := (blk_cell hk 2).trans (show _ = some (Value.slice none 0 0) from rfl)
            have z3 := (blk_cell hk 3).trans (show _ = some (Value.slice none 0 0) from rfl)
            have z4 := (blk_cell hk 4).trans (show _ = some (Value.slice none 0 0) from rfl)
            have z5 := (blk_cell hk 5).trans (show _ = some (Value.int .u64 0) from rfl)
            refine bodyPost_ret (v := .tuple #[.agg emptyG, .int .i64 0, .int .i64 164]) (by simp [results, Tryz.results5, go_sem, z0, z1, z2, z3, z4, z5]) rfl ?_
            rw [HF1.out]
            exact ⟨hb, rfl⟩
           | true =>
            rw [hk] at hchk
            have HF1 : Aside0 (F.bind (endK bs) = .ok (whole ⟨O, S, H, [], Q, n⟩) 0) := ⟨by rw [HE.out, hk]; rfl⟩
            have HCK := Aside0.mk (show Calls Tryz.prog 22 #[.agg #[.slice A0 O.length c0, .slice A1 S.length c1, .slice A2 H.length c2, .slice A3 (finals O).length c3, .slice A4 Q.length c4, .int .u64 n]] w6 (fun e w2 => e = .returned (.int .i64 0) ∧ Below w6.heap.size w6 w2) from hchk)
            clear hchk hk HE
            obtain ⟨A6, c6, hbk, -, -⟩ := HG7.out.tx
            have t1 := cellS69_1 hbk
            have t2 := cellS69_2 hbk
            have t3 := cellS69_3 hbk
            clear hbk
            have k0 := (blk_cell HG7.out.blk 0).trans (show _ = some (Value.slice A0 O.length c0) from rfl)
            have k1 := (blk_cell HG7.out.blk 1).trans (show _ = some (Value.slice A1 S.length c1) from rfl)
            have k2 := (blk_cell HG7.out.blk 2).trans (show _ = some (Value.slice A2 H.length c2) from rfl)
            have k3 := (blk_cell HG7.out.blk 3).trans (show _ = some (Value.slice A3 (finals O).length c3) from rfl)
            have k4 := (blk_cell HG7.out.blk 4).trans (show _ = some (Value.slice A4 Q.length c4) from rfl)
            have k5 := (blk_cell HG7.out.blk 5).trans (show _ = some (Value.int .u64 n) from rfl)
            go_wp2_with (fail)
            refine HCK.out.mono ?_
            rintro en w7 ⟨rfl, hb7⟩
            have HG8 := Aside0.mk (HG7.out.below hb7)
            clear hb7 HCK HG7 t1 t2 t3 k0 k1 k2 k3 k4 k5
            obtain ⟨A6, c6, hbk, -, -⟩ := HG8.out.tx
            have t1 := cellS69_1 hbk
            have t2 := cellS69_2 hbk
            have t3 := cellS69_3 hbk
            clear hbk
            have k0 := (blk_cell HG8.out.blk 0).trans (show _ = some (Value.slice A0 O.length c0) from rfl)
            have k1 := (blk_cell HG8.out.blk 1).trans (show _ = some (Value.slice A1 S.length c1) from rfl)
            have k2 := (blk_cell HG8.out.blk 2).trans (show _ = some (Value.slice A2 H.length c2) from rfl)
            have k3 := (blk_cell HG8.out.blk 3).trans (show _ = some (Value.slice A3 (finals O).length c3) from rfl)
            have k4 := (blk_cell HG8.out.blk 4).trans (show _ = some (Value.slice A4 Q.length c4) from rfl)
            have k5 := (blk_cell HG8.out.blk 5).trans (show _ = some (Value.int .u64 n) from rfl)
            have r0 := (blk_cell HG8.out.res 0).trans (show _ = some (Value.slice none 0 0) from rfl)
            have r1 := (blk_cell HG8.out.res 1).trans (show _ = some (Value.slice none 0 0) from rfl)
            have r2 := (blk_cell HG8.out.res 2).trans (show _ = some (Value.slice none 0 0) from rfl)
            have r3 := (blk_cell HG8.out.res 3).trans (show _ = some (Value.slice none 0 0) from rfl)
            have r4 := (blk_cell HG8.out.res 4).trans (show _ = some (Value.slice none 0 0) from rfl)
            have r5 := (blk_cell HG8.out.res 5).trans (show _ = some (Value.int .u64 0) from rfl)
            have q0 := blk_frozen HG8.out.res 0
            have q1 := blk_frozen HG8.out.res 1
            have q2 := blk_frozen HG8.out.res 2
            have q3 := blk_frozen HG8.out.res 3
            have q4 := blk_frozen HG8.out.res 4
            have q5 := blk_frozen HG8.out.res 5
            have HD := Aside0.mk HG8.out.done
            go_wp2_with (fail)
            refine post_world (fun w2 => Below w.heap.size w w2 ∧ w2.heap[w.heap.size]? = some (.cells #[.slice A0 O.length c0, .slice A1 S.length c1, .slice A2 H.length c2, .slice A3 (finals O).length c3, .slice A4 Q.length c4, .int .u64 n] 44 (0, 0)) ∧ Got w w2 ⟨O, S, H, finals O, Q, n⟩ (.slice A0 O.length c0) (.slice A1 S.length c1) (.slice A2 H.length c2) (.slice A3 (finals O).length c3) (.slice A4 Q.length c4)) HD.out ?_
            rintro w2 ⟨hb, hk, hg⟩
            have z0 := (blk_cell hk 0).trans (show _ = some (Value.slice A0 O.length c0) from rfl)
            have z1 := (blk_cell hk 1).trans (show _ = some (Value.slice A1 S.length c1) from rfl)
            have z2 := (blk_cell hk 2).trans (show _ = some (Value.slice A2 H.length c2) from rfl)
            have z3 := (blk_cell hk 3).trans (show _ = some (Value.slice A3 (finals O).length c3) from rfl)
            have z4 := (blk_cell hk 4).trans (show _ = some (Value.slice A4 Q.length c4) from rfl)
            have z5 := (blk_cell hk 5).trans (show _ = some (Value.int .u64 n) from rfl)
            refine bodyPost_ret (v := .tuple #[.agg #[.slice A0 O.length c0, .slice A1 S.length c1, .slice A2 H.length c2, .slice A3 (finals O).length c3, .slice A4 Q.length c4, .int .u64 n], .int .i64 0, .int .i64 0]) (by simp [results, Tryz.results5, go_sem, z0, z1, z2, z3, z4, z5]) rfl ?_
            rw [HF1.out]
            exact ⟨hb, _, _, _, _, _, rfl, hg⟩
        ·have HF1 : Aside0 (F.bind (endK bs) = .bad p 163) := ⟨by rw [HF4.out]; show endK bs _ p = _; unfold endK endR; rw [if_neg HP4.out, HN4.out, if_neg (fun h => hs (HFV.out.1 h))]; rfl⟩
         have n1 : ¬ (V : Int) = (N4 : Int) := by omega
         have HFA := Aside0.mk (tfault0_any ((p : Int)) 163 HG7.out.tx HG7.out.bel)
         obtain ⟨A6, c6, hbk, -, -⟩ := HG7.out.tx
         have t1 := cellS69_1 hbk
         have t2 := cellS69_2 hbk
         have t3 := cellS69_3 hbk
         clear hbk
         go_wp2_with (fail)
         refine HFA.out.mono ?_
         rintro en w6 ⟨rfl, ts⟩
         have HG8 := Aside0.mk (HG7.out.ts ts)
         clear ts HFA t1 t2 t3
         obtain ⟨A6, c6, hbk, -, -⟩ := HG8.out.tx
         have t1 := cellS69_1 hbk
         have t2 := cellS69_2 hbk
         have t3 := cellS69_3 hbk
         clear hbk
         have r0 := (blk_cell HG8.out.res 0).trans (show _ = some (Value.slice none 0 0) from rfl)
         have r1 := (blk_cell HG8.out.res 1).trans (show _ = some (Value.slice none 0 0) from rfl)
         have r2 := (blk_cell HG8.out.res 2).trans (show _ = some (Value.slice none 0 0) from rfl)
         have r3 := (blk_cell HG8.out.res 3).trans (show _ = some (Value.slice none 0 0) from rfl)
         have r4 := (blk_cell HG8.out.res 4).trans (show _ = some (Value.slice none 0 0) from rfl)
         have r5 := (blk_cell HG8.out.res 5).trans (show _ = some (Value.int .u64 0) from rfl)
         have q0 := blk_frozen HG8.out.res 0
         have q1 := blk_frozen HG8.out.res 1
         have q2 := blk_frozen HG8.out.res 2
         have q3 := blk_frozen HG8.out.res 3
         have q4 := blk_frozen HG8.out.res 4
         have q5 := blk_frozen HG8.out.res 5
         have HD := Aside0.mk HG8.out.dead
         go_wp2_with (fail)
         go_region
         go_wp2_with (fail)
         refine post_world (fun w2 => Below w.heap.size w w2 ∧ w2.heap[w.heap.size]? = some (.cells emptyG 44 (0, 0))) HD.out ?_
         rintro w2 ⟨hb, hk⟩
         have z0 := (blk_cell hk 0).trans (show _ = some (Value.slice none 0 0) from rfl)
         have z1 := (blk_cell hk 1).trans (show _ = some (Value.slice none 0 0) from rfl)
         have z2 := (blk_cell hk 2).trans (show _ = some (Value.slice none 0 0) from rfl)
         have z3 := (blk_cell hk 3).trans (show _ = some (Value.slice none 0 0) from rfl)
         have z4 := (blk_cell hk 4).trans (show _ = some (Value.slice none 0 0) from rfl)
         have z5 := (blk_cell hk 5).trans (show _ = some (Value.int .u64 0) from rfl)
         refine bodyPost_ret (v := .tuple #[.agg emptyG, .int .i64 (p : Int), .int .i64 163]) (by simp [results, Tryz.results5, go_sem, z0, z1, z2, z3, z4, z5]) rfl ?_
         rw [HF1.out]
         exact ⟨hb, rfl⟩
    ·obtain ⟨qd, rfl, -, hF⟩ : ∃ q : Nat, pl4 = q ∧ e4 ≠ 0 ∧ F.bind (endK bs) = .bad q e4 := by
      rcases HL4.out with ⟨p, -, -, h, -⟩ | h
      ·exact absurd h he
      ·obtain ⟨q, h1, h2, h3⟩ := h; exact ⟨q, h1, h2, by rw [h3]; rfl⟩
     obtain ⟨A6, c6, hbk, -, -⟩ := HG6.out.tx
     have t1 := cellS69_1 hbk
     have t2 := cellS69_2 hbk
     have t3 := cellS69_3 hbk
     clear hbk
     have r0 := (blk_cell HG6.out.res 0).trans (show _ = some (Value.slice none 0 0) from rfl)
     have r1 := (blk_cell HG6.out.res 1).trans (show _ = some (Value.slice none 0 0) from rfl)
     have r2 := (blk_cell HG6.out.res 2).trans (show _ = some (Value.slice none 0 0) from rfl)
     have r3 := (blk_cell HG6.out.res 3).trans (show _ = some (Value.slice none 0 0) from rfl)
     have r4 := (blk_cell HG6.out.res 4).trans (show _ = some (Value.slice none 0 0) from rfl)
     have r5 := (blk_cell HG6.out.res 5).trans (show _ = some (Value.int .u64 0) from rfl)
     have q0 := blk_frozen HG6.out.res 0
     have q1 := blk_frozen HG6.out.res 1
     have q2 := blk_frozen HG6.out.res 2
     have q3 := blk_frozen HG6.out.res 3
     have q4 := blk_frozen HG6.out.res 4
     have q5 := blk_frozen HG6.out.res 5
     have HD := Aside0.mk HG6.out.dead
     go_wp2_with (fail)
     go_region
     go_wp2_with (fail)
     refine post_world (fun w2 => Below w.heap.size w w2 ∧ w2.heap[w.heap.size]? = some (.cells emptyG 44 (0, 0))) HD.out ?_
     rintro w2 ⟨hb, hk⟩
     have z0 := (blk_cell hk 0).trans (show _ = some (Value.slice none 0 0) from rfl)
     have z1 := (blk_cell hk 1).trans (show _ = some (Value.slice none 0 0) from rfl)
     have z2 := (blk_cell hk 2).trans (show _ = some (Value.slice none 0 0) from rfl)
     have z3 := (blk_cell hk 3).trans (show _ = some (Value.slice none 0 0) from rfl)
     have z4 := (blk_cell hk 4).trans (show _ = some (Value.slice none 0 0) from rfl)
     have z5 := (blk_cell hk 5).trans (show _ = some (Value.int .u64 0) from rfl)
     refine bodyPost_ret (v := .tuple #[.agg emptyG, .int .i64 qd, .int .i64 e4]) (by simp [results, Tryz.results5, go_sem, z0, z1, z2, z3, z4, z5]) rfl ?_
     rw [hF]
     exact ⟨hb, rfl⟩
end Go.Proofs.YtihjjkoddphmiaaGreatDoor.img
