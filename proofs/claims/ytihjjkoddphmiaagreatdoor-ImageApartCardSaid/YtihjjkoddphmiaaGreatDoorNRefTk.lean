/-
  The walk of the reference's text by hand: object.
-/
import Derived.Test.YtihjjkoddphmiaaGreatDoorNRefTj
import Derived.Test.YtihjjkoddphmiaaGreatDoorNRefTo
namespace Go.Proofs.YtihjjkoddphmiaaGreatDoor.img
open Go.RowKit Go.Proofs.YtihjjkoddphmiaaGreatDoorW.PrintWords Go.Proofs.YtihjjkoddphmiaaGreatDoorW.PrintLast Go.Proofs.YtihjjkoddphmiaaGreatDoorW.PrintMore Go.Proofs.YtihjjkoddphmiaaGreatDoor.PImageApart
set_option linter.unusedVariables false
set_option linter.unusedSimpArgs false

section
variable {γ : Type} {b : List Int} {F : Res γ} {a e pl : Int} {w0 w : World} {g : Nat}
abbrev z66 : Array Value := #[.int .u64 0, .int .i64 0, .int .i64 0, .slice none 0 0, .slice none 0 0]
theorem Oq.new (hI : IsS69 w0 w g b a e pl) (hB : Below w0.heap.size w0 w) : Oq w0 w b g w.heap.size (w.heap.size + 1) a e pl 0 0 0 (.slice none 0 0) (.slice none 0 0) [] [] ((w.alloc (.cells z66 66)).alloc (.cells z66 66)) := by
 have hb1 : Below w.heap.size w (w.alloc (.cells z66 66)) := below_alloc (Below.refl _ _) _
 have hb2 : Below w.heap.size w ((w.alloc (.cells z66 66)).alloc (.cells z66 66)) := below_alloc hb1 _
 have h0 := below_size hB
 refine ⟨⟨hI.below hb2, hB.trans (hb2.mono h0), KeepBut.of_below hb2 _ _⟩, ?_, ?_, h0, Nat.le_refl _, Nat.lt_succ_self _, Kd.R_nil _ _ _ _ _, Kd.R_nil _ _ _ _ _⟩
 ·exact blk_below (heap_alloc_new w _) (below_alloc (Below.refl _ _) _)
 ·have := heap_alloc_new (w.alloc (.cells z66 66)) (.cells z66 66)
  rw [show (w.alloc (.cells z66 66)).heap.size = w.heap.size + 1 from Array.size_push _] at this
  exact this
structure Of (w0 w : World) (b : List Int) (g gr : Nat) (a e pl : Int) (v3 v4 : Value) (P R : List Int) (cs : Array Value) (wr : World) : Prop where
 ts : Ts w0 w g b a e pl wr
 blk : wr.heap[gr]? = some (.cells cs 66 (0, 0))
 le : w0.heap.size ≤ w.heap.size
 ge : w.heap.size ≤ gr
 r3 : (Kd.int .i64).R 3 wr w.heap.size (fun _ => True) v3 P
 r4 : (Kd.int .u64).R 42 wr w.heap.size (fun _ => True) v4 R
theorem Of.set {gr : Nat} {v3 v4 : Value} {P R : List Int} {cs ds : Array Value} {wr : World} (h : Of w0 w b g gr a e pl v3 v4 P R cs wr) (j : Nat) (u : Value) (hd : (wr.setCell ⟨gr, j, none⟩ u).heap[gr]? = some (.cells ds 66 (0, 0))) : Of w0 w b g gr a e pl v3 v4 P R ds (wr.setCell ⟨gr, j, none⟩ u) :=
 ⟨h.ts.setFar h.blk h.le h.ge _ _, hd, h.le, h.ge, row_set62 h.r3 h.blk (by decide) _ _, row_set62 h.r4 h.blk (by decide) _ _⟩
theorem Oq.fin {gr go : Nat} {f0 f1 f2 : Int} {v3 v4 : Value} {P R : List Int} {wr : World} (h : Oq w0 w b g gr go a e pl f0 f1 f2 v3 v4 P R wr) : Of w0 w b g gr a e pl v3 v4 P R #[.int .u64 f0, .int .i64 f1, .int .i64 f2, v3, v4] (((((wr.setCell ⟨gr, 0, none⟩ (.int .u64 f0)).setCell ⟨gr, 1, none⟩ (.int .i64 f1)).setCell ⟨gr, 2, none⟩ (.int .i64 f2)).setCell ⟨gr, 3, none⟩ v3).setCell ⟨gr, 4, none⟩ v4) := by
 have q0 : Of w0 w b g gr a e pl v3 v4 P R z66 wr := ⟨h.ts, h.res, h.le, h.ge, h.r3, h.r4⟩
 have q1 := q0.set 0 (.int .u64 f0) (blk_set q0.blk 0 _)
 have q2 := q1.set 1 (.int .i64 f1) (blk_set q1.blk 1 _)
 have q3 := q2.set 2 (.int .i64 f2) (blk_set q2.blk 2 _)
 have q4 := q3.set 3 v3 (blk_set q3.blk 3 _)
 have q5 := q4.set 4 v4 (blk_set q4.blk 4 _)
 simpa using q5
theorem post_worldo {P : Program} {F : Func} {R : Ending → World → Prop} {e : Exit} {a : Act} {w1 : World} (p : World → Prop) (h : p w1) (k : ∀ w2, p w2 → bodyPost P F R e a w2) : bodyPost P F R e a w1 := k w1 h
def OPost {γ : Type} (w0 w : World) (g : Nat) (b : List Int) (K : S66 × Int → Nat → Res γ) (F : Res γ) (last lastP : Int) (en : Ending) (w' : World) : Prop :=
 ∃ (o : S66) (gr : Bool) (v3 v4 : Value) (a' e' pl' step : Int), en = .returned (.tuple #[.agg #[.int .u64 o.f0, .int .i64 o.f1, .int .i64 o.f2, v3, v4], .bool gr]) ∧ Obk last step o gr ∧ Kd.R (Kd.int .i64) 3 w' w.heap.size (fun _ => True) v3 o.f3 ∧ Kd.R (Kd.int .u64) 42 w' w.heap.size (fun _ => True) v4 o.f4 ∧
   Lv b F (fun p => K (⟨ser lastP step, o.f1, o.f2, o.f3, o.f4⟩, ser lastP step) p) a' e' pl' ∧ Ts w0 w g b a' e' pl' w'
set_option maxHeartbeats 8000000 in
set_option maxRecDepth 100000 in
theorem tobject_hand (hb : Bytes b) (hl : b.length ≤ 1000000) {K : S66 × Int → Nat → Res γ} (last lastP : Int) (hlast : 0 ≤ last ∧ last ≤ 4611686018427387904) (hI : IsS69 w0 w g b a e pl) (hB : Below w0.heap.size w0 w) (h : Lv b F (fun p => (obj b lastP p).bind K) a e pl) :
  Calls Tryz.prog 18 #[.pointer (some ⟨g, 0, none⟩), .int .u64 last] w (OPost w0 w g b K F last lastP) := by
 have HBY := Aside0.mk hb
 have HQ := Aside0.mk (Oq.new hI hB)
 have HN := Aside0.mk (tnumber_hand hb hl HQ.out.ts.tx HQ.out.ts.bel (Lv.imp h (obj_open b lastP K)))
 clear h hI hB hb
 go_enter Tryz.func18, Tryz.ntmps18
 go_wp2_with (fail)
 refine HN.out.mono ?_
 clear HN
 rintro en w1 ⟨step, a1, e1, pl1, rfl, hs, -, hv, ts⟩
 have HQ1 := Aside0.mk (HQ.out.tx ts)
 have HV := Aside0.mk hv
 clear HQ hv ts
 obtain ⟨q1, q2⟩ := hlast
 obtain ⟨gr, hgr⟩ : ∃ gr : Bool, gr = decide (4611686018427387904 < last + step) := ⟨_, rfl⟩
 have HGR := Aside0.mk hgr
 clear hgr
 go_upto_region 3 with (fail)
 go_cut [8] from 13 to 21 (fun u8 wx => u8 = .bool gr ∧ wx = w1)
 case first =>
  by_cases c1 : 4611686018427387904 < step
  ·obtain rfl : gr = true := by rw [HGR.out]; exact decide_eq_true (by omega)
   have d1 : decide ((4611686018427387904 : Int) < (step : Int)) = true := decide_eq_true (by omega)
   go_wp2_with (fail)
   go_meet
   exact ⟨rfl, rfl⟩
  ·have d1 : decide ((4611686018427387904 : Int) < (step : Int)) = false := decide_eq_false (by omega)
   have e1 : IntKind.u64.wrap (4611686018427387904 - (step : Int)) = 4611686018427387904 - (step : Int) := wrap64u (by omega)
   by_cases c2 : 4611686018427387904 - (step : Int) < last
   ·obtain rfl : gr = true := by rw [HGR.out]; exact decide_eq_true (by omega)
    have d2 : decide (4611686018427387904 - (step : Int) < last) = true := decide_eq_true c2
    go_wp2_with (fail)
    go_meet
    exact ⟨rfl, rfl⟩
   ·obtain rfl : gr = false := by rw [HGR.out]; exact decide_eq_false (by omega)
    have d2 : decide (4611686018427387904 - (step : Int) < last) = false := decide_eq_false c2
    go_wp2_with (fail)
    go_meet
    exact ⟨rfl, rfl⟩
 case rest =>
  obtain ⟨rfl, rfl⟩ := hcut
  go_upto_if 22 with (fail)
  go_cut [] from 23 to 27 (fun wy => ∃ f0 : Int, Aside0 (0 ≤ f0 ∧ f0 ≤ 4611686018427387904 ∧ (gr = false → f0 = last + step)) ∧ Aside0 (Oq w0 w b g w.heap.size (w.heap.size + 1) a1 e1 pl1 f0 0 0 (.slice none 0 0) (.slice none 0 0) [] [] wy))
  case first =>
   have HF := Aside0.mk (fun (x : Int) => HQ1.out.set0 x)
   have f0 := blk_frozen HQ1.out.blk 0
   have t0 := blk_cell HQ1.out.blk 0
   cases gr with
   | true =>
    go_wp2_with (fail)
    go_meet
    exact ⟨0, ⟨by omega, by omega, fun h => absurd h (by decide)⟩, HQ1⟩
   | false =>
    have hsm : last + (step : Int) ≤ 4611686018427387904 := by
     have := of_decide_eq_false HGR.out.symm
     omega
    have e1 : IntKind.u64.wrap (last + (step : Int)) = last + (step : Int) := wrap64u (by omega)
    go_wp2_with (fail)
    go_meet
    exact ⟨last + step, ⟨by omega, by omega, fun _ => rfl⟩, ⟨HF.out _⟩⟩
  case rest =>
   clear HQ1
   obtain ⟨f0, HF0, HQ1⟩ := hcut
   have HN := Aside0.mk (tnumber_hand HBY.out hl HQ1.out.ts.tx HQ1.out.ts.bel HV.out)
   go_wp2_with (fail)
   refine HN.out.mono ?_
   clear HN HV
   rintro en w2 ⟨kind, a2, e2, pl2, rfl, hk, -, hv, ts⟩
   have HV := Aside0.mk hv
   have HQ2 := Aside0.mk (HQ1.out.tx ts)
   have HQ3 := Aside0.mk (HQ2.out.set1 kind)
   have t1 := blk_cell HQ2.out.blk 1
   have f1 := blk_frozen HQ2.out.blk 1
   have ek : IntKind.i64.wrap (kind : Int) = (kind : Int) := by rw [IntKind.wrap_i64]; omega
   have HN := Aside0.mk (tnumber_hand HBY.out hl HQ3.out.ts.tx HQ3.out.ts.bel HV.out)
   clear hv ts HQ1 HQ2
   go_wp2_with (fail)
   refine HN.out.mono ?_
   clear HN HV t1 f1
   rintro en w3 ⟨site, a3, e3, pl3, rfl, hsi, -, hv, ts⟩
   have HV := Aside0.mk hv
   have HQ4 := Aside0.mk (HQ3.out.tx ts)
   have HQ5 := Aside0.mk (HQ4.out.set2 site)
   have t2 := blk_cell HQ4.out.blk 2
   have f2 := blk_frozen HQ4.out.blk 2
   have es : IntKind.i64.wrap (site : Int) = (site : Int) := by rw [IntKind.wrap_i64]; omega
   have HN := Aside0.mk (tints_hand (K := fun P p => (num b great p).bind fun n p => if b.length - p < n then .bad b.length 160 else (many (raw b) n () p).bind fun raws p => K (⟨ser lastP step, kind, site, P, raws.1⟩, ser lastP step) p) HBY.out hl 0 (by omega) HQ5.out.ts.tx HQ5.out.ts.bel HV.out)
   clear hv ts HQ3 HQ4
   go_wp2_with (fail)
   refine HN.out.mono ?_
   clear HN HV t2 f2
   rintro en w4 ⟨P, v, a4, e4, pl4, rfl, hP, hR, hv, ts⟩
   obtain ⟨Ap, cp, rfl⟩ := Kd.R_slice hR
   have HV := Aside0.mk hv
   have HP := Aside0.mk hP
   have HQ6 := Aside0.mk (HQ5.out.tx ts)
   have HQ7 := Aside0.mk (HQ6.out.set3 (Kd.R_lower hR HQ5.out.ts.keep.1))
   have t3 := blk_cell HQ6.out.blk 3
   have f3 := blk_frozen HQ6.out.blk 3
   have HN := Aside0.mk (tmany_hand (K := fun n p => (many (raw b) n () p).bind fun raws p => K (⟨ser lastP step, kind, site, P, raws.1⟩, ser lastP step) p) HBY.out hl HQ7.out.ts.tx HQ7.out.ts.bel HV.out)
   clear hv ts hR hP HQ5 HQ6
   go_wp2_with (fail)
   refine HN.out.mono ?_
   clear HN HV t3 f3
   rintro en w5 ⟨N, a5, e5, pl5, rfl, hN, hv, ts⟩
   have HV := Aside0.mk hv
   have HQ8 := Aside0.mk (HQ7.out.tx ts)
   clear hv ts HQ7
   go_wp2_with (fail)
   go_loopw [10] (fun u10 wr => ∃ (q : Nat) (a e pl : Int) (v4 : Value) (R : List Int), u10 = .int .i64 q ∧ q ≤ N ∧ Aside0 (R.length = q) ∧ Aside0 (Oq w0 w b g w.heap.size (w.heap.size + 1) a e pl f0 kind site (.slice Ap P.length cp) v4 P R wr) ∧ Aside0 (Lv b F (fun p => (many (raw b) (N - q) () p).bind fun raws p => K (⟨ser lastP step, kind, site, P, R ++ raws.1⟩, ser lastP step) p) a e pl)) (fun q _ => N - (intOf q).toNat)
   case atStart => exact ⟨0, a5, e5, pl5, _, [], rfl, Nat.zero_le _, ⟨rfl⟩, HQ8, HV⟩
   case round =>
    clear HQ8 HV
    obtain ⟨q, a, e, pl, v4, R, rfl, hq, HLQ, HQ, HL⟩ := hrel
    have htc : wr.cell? ⟨g, 2, none⟩ = some (.int .i64 e) := by
     obtain ⟨A0, c0, hbk, -, -⟩ := HQ.out.ts.tx
     exact cellS69_2 hbk
    obtain ⟨A4, c4, rfl⟩ := Kd.R_slice HQ.out.r4
    have r0 := blk_cell HQ.out.res 0
    have r1 := blk_cell HQ.out.res 1
    have r2 := blk_cell HQ.out.res 2
    have r3 := blk_cell HQ.out.res 3
    have r4 := blk_cell HQ.out.res 4
    have o0 := blk_cell HQ.out.blk 0
    have o1 := blk_cell HQ.out.blk 1
    have o2 := blk_cell HQ.out.blk 2
    have o3 := blk_cell HQ.out.blk 3
    have o4 := blk_cell HQ.out.blk 4
    have z0 := blk_frozen HQ.out.res 0
    have z1 := blk_frozen HQ.out.res 1
    have z2 := blk_frozen HQ.out.res 2
    have z3 := blk_frozen HQ.out.res 3
    have z4 := blk_frozen HQ.out.res 4
    have HQF := Aside0.mk HQ.out.fin
    have HFIN : Aside0 (Lv b F (fun p => K (⟨ser lastP step, kind, site, P, R⟩, ser lastP step) p) a e pl → ∀ W, Of w0 w b g w.heap.size a e pl (.slice Ap P.length cp) (.slice A4 R.length c4) P R #[.int .u64 f0, .int .i64 kind, .int .i64 site, .slice Ap P.length cp, .slice A4 R.length c4] W → OPost w0 w g b K F last lastP (.returned (.tuple #[.agg #[.int .u64 f0, .int .i64 kind, .int .i64 site, .slice Ap P.length cp, .slice A4 R.length c4], .bool gr])) W) := by
     refine ⟨fun hv W hW => ⟨⟨f0, kind, site, P, R⟩, gr, _, _, a, e, pl, step, rfl, ⟨by omega, HP.out, by have := HLQ.out; show R.length ≤ _; omega, ⟨HF0.out.1, HF0.out.2.1⟩, fun hg => ⟨HF0.out.2.2 hg, ?_⟩, fun hg => ?_⟩, hW.r3, hW.r4, hv, hW.ts⟩⟩
     ·have := HF0.out.2.2 hg
      have := HF0.out.2.1
      omega
     ·rw [hg] at HGR
      exact of_decide_eq_true HGR.out.symm
    by_cases hlt : q < N
    ·have p3 : (q : Int) < (N : Int) := by omega
     by_cases he : e = 0
     ·subst he
      have hbd : Below wr.heap.size wr wr.drew := below_drew (Below.refl _ _)
      have HQD := Aside0.mk (HQ.out.tx (⟨HQ.out.ts.tx.below hbd, below_step HQ.out.ts.bel hbd, KeepBut.of_below hbd _ _⟩ : Ts w0 wr g b a 0 pl wr.drew))
      have HW := Aside0.mk (tword_hand (K := fun n p => (many (raw b) (N - (q + 1)) () p).bind fun raws p => K (⟨ser lastP step, kind, site, P, (R ++ [(n : Int)]) ++ raws.1⟩, ser lastP step) p) HBY.out hl HQD.out.ts.tx HQD.out.ts.bel (Lv.imp HL.out (fun p => by
       rw [show N - q = (N - (q + 1)) + 1 by omega]
       simp only [many, raw, Res.bind_assoc, Res.ok_bind, List.append_assoc, List.singleton_append])))
      have T4 := Aside0.mk (blk_cell HQD.out.blk 4)
      clear HFIN HQF
      go_wp2_with (fail)
      go_region_law (first
       | (refine Kd.R_append_step (Kd.int .u64) (w0 := w7) (W := w7) w.heap.size (by rfl) (.tmp 53) (.tmp 56) 64 42 (.int .u64 0) 8 (by rfl) Tryz.underlying64 info42_ rfl (by decide) (by decide) (.slice A4 R.length c4) R (n : Int) [.int .u64 n] (fun _ => True) (fun _ => False) (by rfl) (by rfl) rfl (fun _ hk => hk.elim) (fun _ _ => trivial) HQ7.out.r4 (Below.refl _ _) HB7.out.1 HB7.out.2 ?_; intro v1 w8 ho hb hg hat; obtain ⟨A8, c8, rfl⟩ := Kd.R_slice ho; have zf := blk_frozen (blk_grown HQ7.out.blk hg (Kd.R_ne HQ7.out.r4 HQ7.out.blk (by decide))) 4; have zc := blk_cell (blk_grown HQ7.out.blk hg (Kd.R_ne HQ7.out.r4 HQ7.out.blk (by decide))) 4; have HQ9 := Aside0.mk (HQ7.out.push4 ho hb hg); clear ho hb hg hat)
       | (go_simp; refine HW.out.mono ?_; rintro en w7 ⟨n, a', e', pl', rfl, hn, -, -, hv, ts⟩; have HV := Aside0.mk hv; have HQ7 := Aside0.mk (HQD.out.tx ts); have t4w := (blk_cell HQ7.out.blk 4).trans (show _ = some (Value.slice A4 R.length c4) from rfl); have t4a := (blk_cell (blk_alloc HQ7.out.blk (.cells #[.int .u64 (n : Int)] 42)) 4).trans (show _ = some (Value.slice A4 R.length c4) from rfl); have HB7 : Aside0 (w.heap.size ≤ w7.heap.size ∧ (R.length + 1) * 8 ≤ 140737488355328) := ⟨HQ7.out.ts.keep.1, by have := HLQ.out; omega⟩; clear hv ts))
      all_goals
       have HQN := HQ9
       rw [List.length_append, List.length_singleton] at HQN
       clear zf zc
       go_wp2_with (fail)
       go_roundw
       case rel => exact ⟨q + 1, a', e', pl', _, R ++ [(n : Int)], by go_num, by omega, ⟨by rw [List.length_append, HLQ.out]; rfl⟩, HQN, by rw [show N - (q + 1) = N - (q + 1) from rfl]; exact HV⟩
       case measure => simp [intOf]; omega
     ·go_wp2_with (fail)
      refine post_worldo (Of w0 w b g w.heap.size a e pl (.slice Ap P.length cp) (.slice A4 R.length c4) P R #[.int .u64 f0, .int .i64 kind, .int .i64 site, .slice Ap P.length cp, .slice A4 R.length c4]) HQF.out ?_
      intro W hW
      have y0 := blk_cell hW.blk 0
      have y1 := blk_cell hW.blk 1
      have y2 := blk_cell hW.blk 2
      have y3 := blk_cell hW.blk 3
      have y4 := blk_cell hW.blk 4
      refine bodyPost_ret (v := .tuple #[.agg #[.int .u64 f0, .int .i64 kind, .int .i64 site, .slice Ap P.length cp, .slice A4 R.length c4], .bool gr]) (by simp [results, Tryz.results18, go_sem, y0, y1, y2, y3, y4]) rfl ?_
      exact HFIN.out (by
       rcases HL.out with ⟨p, -, -, h, -⟩ | h
       ·exact absurd h he
       ·exact .inr h) W hW
    ·have p3 : ¬ (q : Int) < (N : Int) := by omega
     go_wp2_with (fail)
     refine post_worldo (Of w0 w b g w.heap.size a e pl (.slice Ap P.length cp) (.slice A4 R.length c4) P R #[.int .u64 f0, .int .i64 kind, .int .i64 site, .slice Ap P.length cp, .slice A4 R.length c4]) HQF.out ?_
     intro W hW
     have y0 := blk_cell hW.blk 0
     have y1 := blk_cell hW.blk 1
     have y2 := blk_cell hW.blk 2
     have y3 := blk_cell hW.blk 3
     have y4 := blk_cell hW.blk 4
     refine bodyPost_ret (v := .tuple #[.agg #[.int .u64 f0, .int .i64 kind, .int .i64 site, .slice Ap P.length cp, .slice A4 R.length c4], .bool gr]) (by simp [results, Tryz.results18, go_sem, y0, y1, y2, y3, y4]) rfl ?_
     exact HFIN.out (Lv.imp HL.out (fun p => by rw [show N - q = 0 by omega]; simp [many, Res.bind])) W hW
end
end Go.Proofs.YtihjjkoddphmiaaGreatDoor.img
