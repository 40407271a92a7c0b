/-
  The walk of middenlaw16.ImageReads, fn 5.
-/
import Derived.Test.YtihjjkoddphmiaaDoorMLawRa
namespace Go.Proofs.YtihjjkoddphmiaaDoor.img
open Go.RowKit Go.Proofs.YtihjjkoddphmiaaDoorW.PrintWords Go.Proofs.YtihjjkoddphmiaaDoorW.PrintLast Go.Proofs.YtihjjkoddphmiaaDoorW.PrintMore Go.Proofs.YtihjjkoddphmiaaDoor.PImageRound
set_option linter.unusedVariables false
set_option linter.unusedSimpArgs false

set_option maxHeartbeats 16000000 in
set_option maxRecDepth 100000 in
theorem reads_any (A : Option Addr) (c : Nat) (bs : List Int) (w : World) (hT : Tabs w) (hbb : Bytes bs) (hlc : bs.length ≤ c) (hbl : bs.length ≤ 9223372036854775807) (hC : Kd.C (Kd.int .u8) w A bs.length bs) :
  Calls Tryd.prog 5 #[.slice A bs.length c] w fun e w' => e = .returned (.bool true) ∧ Below w.heap.size w w' := by
 have HT := Aside0.mk hT
 have HC := Aside0.mk hC
 have HBB := Aside0.mk hbb
 clear hT hC hbb
 by_cases hbig : 131072 < bs.length
 ·have hbig2 : (131072 : Int) < (bs.length : Int) := by omega
  go_enter Tryd.func5, Tryd.ntmps5
  go_wp2_with (fail)
  go_ret
  exact ⟨rfl, Below.refl _ _⟩
 have hbig2 : ¬ ((131072 : Int) < (bs.length : Int)) := by omega
 have HRR := Aside0.mk (RefRead_any A c bs w HBB.out (by omega) hlc HC.out)
 have HTM0 := Aside0.mk (told_tame bs (by omega))
 obtain ⟨R, hR⟩ : ∃ R, readR bs = R := ⟨_, rfl⟩
 have HR := Aside0.mk hR
 rw [hR] at HRR HTM0
 clear hR
 go_enter Tryd.func5, Tryd.ntmps5
 go_wp2_with (fail)
 refine HRR.out.mono ?_
 clear HRR
 intro en w1 hp
 obtain ⟨hb1, A0, A1, A2, A3, A4, c0, c1, c2, c3, c4, rfl, hrd⟩ := hp.plain
 obtain ⟨g, hg⟩ : ∃ g, toldG R = g := ⟨_, rfl⟩
 obtain ⟨q, hq⟩ : ∃ q, toldN R = q := ⟨_, rfl⟩
 obtain ⟨k, hk⟩ : ∃ k, toldE R = k := ⟨_, rfl⟩
 rw [hg, hq, hk]
 rw [hg] at hrd HTM0
 have HB1 := Aside0.mk hb1
 have HRD := Aside0.mk hrd.rd
 have HTO := Aside0.mk (And.intro hg (And.intro hq hk))
 obtain ⟨W2, hW2⟩ : ∃ W2, w1.alloc (.cells #[.slice A0 g.objs.length c0, .slice A1 g.slots.length c1, .slice A2 g.handles.length c2, .slice A3 g.registry.length c3, .slice A4 g.queue.length c4, .int .u64 g.next] 27) = W2 := ⟨_, rfl⟩
 have hs2 : W2.heap.size = w1.heap.size + 1 := by rw [← hW2]; simp
 have HRm := Aside0.mk (Rm.start W2)
 have HK3 := Aside0.mk (heap_alloc_new w1 (.cells #[.slice A0 g.objs.length c0, .slice A1 g.slots.length c1, .slice A2 g.handles.length c2, .slice A3 g.registry.length c3, .slice A4 g.queue.length c4, .int .u64 g.next] 27))
 have hb2 : Below w1.heap.size w1 (W2.alloc (.cells room0 38)) := by rw [← hW2]; exact below_alloc (below_alloc (Below.refl _ _) _) _
 have HBY := Aside0.mk (Bytes_any W2.heap.size W2.heap.size 0 room0 (role0 W2.heap.size) A c bs (W2.alloc (.cells room0 38)) HRm.out (by omega) (Kd.C_below (Kd.C_below HC.out HB1.out) hb2) (by omega))
 have HB2 := Aside0.mk hb2
 rw [hW2] at HK3
 rw [hs2] at HRm HBY
 have HW2 := Aside0.mk (And.intro hW2 hs2)
 clear hg hq hk hb1 hrd hp hb2
 go_wp2_with (fail)
 refine HBY.out.mono ?_
 clear HBY
 rintro en w3 ⟨ρ1, C1, v, rfl, hRm1, hE1, hb3, hLI⟩
 obtain ⟨f, c', cs, m, rfl, hlc', -, -, hfm, -⟩ := id hLI
 obtain ⟨W3, hW3⟩ : ∃ W3, W2.alloc (.cells room0 38) = W3 := ⟨_, rfl⟩
 rw [hW3] at hE1 hb3 HB2
 have hbel3 : Below w.heap.size w w3 := (below_step HB1.out HB2.out).trans (hb3.mono (by have := HB1.out.size; omega))
 have hk33 : w3.heap[w1.heap.size]? = some (.cells #[.slice A0 g.objs.length c0, .slice A1 g.slots.length c1, .slice A2 g.handles.length c2, .slice A3 g.registry.length c3, .slice A4 g.queue.length c4, .int .u64 g.next] 27 (0, 0)) := (hb3.block _ (by omega)).trans (by rw [← hW3]; exact blk_alloc HK3.out _)
 have hw33 : ρ1 w1.heap.size = .work := (hE1.same _ (by rw [← hW3]; simp; have := HW2.out.2; omega)).trans (if_neg (by omega))
 have hgf : w.heap.size ≤ f := by have := hRm1.fixed f m hfm; have := HB1.out.size; omega
 have hb13 : Below w1.heap.size w1 w3 := HB2.out.trans (hb3.mono (by omega))
 have hC3 : Kd.C (Kd.int .u8) w3 (some ⟨f, 0, none⟩) bs.length bs := by
  obtain ⟨_, _, e, -, h⟩ := hLI.reads
  injection e with e1 _ _
  rw [e1]
  exact h
 have HRD2 := Aside0.mk (Read_any (some ⟨f, 0, none⟩) c' bs w3 HBB.out (by omega) hlc' hC3 (HT.out.below hbel3))
 rw [HR.out] at HRD2
 have H3 := Aside0.mk (And.intro hbel3 (And.intro hk33 (And.intro hw33 (And.intro hgf hb13))))
 have HM3 := Aside0.mk (And.intro hRm1 (And.intro hLI hlc'))
 clear hRm1 hE1 hb3 hLI hfm hW3 hbel3 hk33 hw33 hgf hC3 HB2 HRm HK3 HW2 hb13
 go_wp2_with (fail)
 refine HRD2.out.mono ?_
 clear HRD2
 intro en w4 hp
 obtain ⟨hb4, B0, B1, B2, B3, B4, d0, d1, d2, d3, d4, rfl, hrd⟩ := hp.plain
 rw [HTO.out.1, HTO.out.2.1, HTO.out.2.2]
 rw [HTO.out.1] at hrd
 obtain ⟨w5, hw5⟩ : ∃ w5, w4.alloc (.cells #[.slice B0 g.objs.length d0, .slice B1 g.slots.length d1, .slice B2 g.handles.length d2, .slice B3 g.registry.length d3, .slice B4 g.queue.length d4, .int .u64 g.next] 27) = w5 := ⟨_, rfl⟩
 have hb5 : Below w4.heap.size w4 w5 := by rw [← hw5]; exact below_alloc (Below.refl _ _) _
 have hb35 := below_step hb4 hb5
 have hk3 := blk_below H3.out.2.1 hb35
 have hk8 : w5.heap[w4.heap.size]? = some (.cells #[.slice B0 g.objs.length d0, .slice B1 g.slots.length d1, .slice B2 g.handles.length d2, .slice B3 g.registry.length d3, .slice B4 g.queue.length d4, .int .u64 g.next] 27 (0, 0)) := by rw [← hw5]; exact heap_alloc_new w4 _
 have HL := Aside0.mk (show Lr w A bs (w1.heap.size + 1) (w1.heap.size + 1) f w1.heap.size w4.heap.size c' ρ1 C1 bs w5 from
  ⟨below_step H3.out.1 hb35, (HM3.out.1.more (by omega)).below hb35, LI.stay _ _ _ _ _ _ _ _ (Ext.below hb35).lies HM3.out.2.1, HBB.out, ⟨_, _, _, _, _, _, hk3⟩, ⟨_, _, _, _, _, _, hk8⟩, H3.out.2.2.1, HM3.out.1.fresh _ hb4.size, HB1.out.size, Nat.le_trans H3.out.1.size hb4.size, H3.out.2.2.2.1, by have := blk_lt H3.out.2.1; have := hb4.size; omega⟩)
 have HR3 := Aside0.mk ((HRD.out.below H3.out.2.2.2.2).below hb35)
 have HR8 := Aside0.mk (hrd.rd.below hb5)
 have HK := Aside0.mk (And.intro hk3 hk8)
 clear hb4 hb5 hb35 hrd hk3 hk8 hp HRD
 obtain ⟨hk3, hk8⟩ := HK.out
 have a0 := (blk_cell hk3 0).trans (show _ = some (Value.slice A0 g.objs.length c0) from rfl)
 have a1 := (blk_cell hk3 1).trans (show _ = some (Value.slice A1 g.slots.length c1) from rfl)
 have a2 := (blk_cell hk3 2).trans (show _ = some (Value.slice A2 g.handles.length c2) from rfl)
 have a3 := (blk_cell hk3 3).trans (show _ = some (Value.slice A3 g.registry.length c3) from rfl)
 have a4 := (blk_cell hk3 4).trans (show _ = some (Value.slice A4 g.queue.length c4) from rfl)
 have a5 := (blk_cell hk3 5).trans (show _ = some (Value.int .u64 g.next) from rfl)
 have b0 := (blk_cell hk8 0).trans (show _ = some (Value.slice B0 g.objs.length d0) from rfl)
 have b1 := (blk_cell hk8 1).trans (show _ = some (Value.slice B1 g.slots.length d1) from rfl)
 have b2 := (blk_cell hk8 2).trans (show _ = some (Value.slice B2 g.handles.length d2) from rfl)
 have b3 := (blk_cell hk8 3).trans (show _ = some (Value.slice B3 g.registry.length d3) from rfl)
 have b4 := (blk_cell hk8 4).trans (show _ = some (Value.slice B4 g.queue.length d4) from rfl)
 have b5 := (blk_cell hk8 5).trans (show _ = some (Value.int .u64 g.next) from rfl)
 clear hk3 hk8
 have HS := Aside0.mk (sameGr_any ⟨B0, B1, B2, B3, B4, d0, d1, d2, d3, d4⟩ ⟨A0, A1, A2, A3, A4, c0, c1, c2, c3, c4⟩ g HTM0.out w5 HR8.out HR3.out)
 go_wp2_with (go_at_call 12; refine (num_is _ _).mono ?_; rintro en w' ⟨rfl, rfl⟩)
 refine HS.out.mono ?_
 rintro en w6 ⟨rfl, hb6⟩
 have HL1 := Aside0.mk (HL.out.below hb6)
 have HS2 := Aside0.mk (same_own (A := some ⟨f, 0, none⟩) (B := A) (c := c') (d := c) HBB.out HL1.out.row hlc' (Kd.C_below HC.out HL1.out.bel) hlc)
 clear hb6 HS HL HR3 HR8 a0 a1 a2 a3 a4 a5 b0 b1 b2 b3 b4 b5 HK
 go_wp2_with (fail)
 refine HS2.out.mono ?_
 rintro en w7 ⟨rfl, hb7⟩
 have HL2 := Aside0.mk (HL1.out.below hb7)
 clear hb7 HS2 HL1
 go_wp2_with (fail)
 refine (Hold_any _ _ 4000000000000 C1 ρ1 _ HL2.out.rm (Nat.le_refl _)).mono ?_
 rintro en w8 ⟨rfl, hb8⟩
 have HL3 := Aside0.mk (HL2.out.below hb8)
 clear hb8 HL2
 by_cases hz : bs.length = 0
 ·have hz2 : (bs.length : Int) = 0 := by omega
  go_wp2_with (fail)
  go_ret
  exact ⟨rfl, HL3.out.bel⟩
 have hz2 : ¬ (bs.length : Int) = 0 := by omega
 have hz3 : ((bs.length : Int) == 0) = false := beq_eq_false_iff_ne.2 hz2
 obtain ⟨k3, hk3⟩ : ∃ k3, w1.heap.size = k3 := ⟨_, rfl⟩
 obtain ⟨k8, hk8⟩ : ∃ k8, w4.heap.size = k8 := ⟨_, rfl⟩
 rw [hk3, hk8] at HL3 ⊢
 have HKK := Aside0.mk (And.intro hk3 hk8)
 clear hk3 hk8
 go_wp2_with (fail)
 go_loopw [4, 5, 9, 10, 11] (fun u4 u5 u9 u10 u11 wr => ∃ (i : Nat) (xs : List Int), i ≤ 2 ∧ u11 = .int .i64 i ∧ Aside0 (Lr w A bs (k3 + 1) (k3 + 1) f k3 k8 c' ρ1 C1 xs wr)) (fun _ _ _ _ i _ => 2 - (intOf i).toNat)
 case atStart => exact ⟨0, bs, by omega, rfl, HL3⟩
 case round =>
  clear HL3
  obtain ⟨i, xs, hi, rfl, HL⟩ := hrel
  by_cases hlt : i < 2
  ·have p1 : (i : Int) < 2 := by omega
   obtain ⟨mm, hmm⟩ : ∃ mm, bs.length / 2 = mm := ⟨_, rfl⟩
   have hm : mm < bs.length := by omega
   obtain ⟨hmid, hfz⟩ := HL.out.mid hm
   have e1 : (bs.length : Int) / 2 = (mm : Int) := by omega
   have e2 : (bs.length : Int).tdiv 2 = (mm : Int) := by rw [Int.tdiv_eq_ediv_of_nonneg (by omega)]; exact e1
   have q1 : (0 : Int) ≤ (mm : Int) := by omega
   have q2 : (mm : Int) < (bs.length : Int) := by omega
   obtain ⟨x, hx⟩ : ∃ x, xs.getD mm 0 = x := ⟨_, rfl⟩
   rw [hx] at hmid
   have HL1 := Aside0.mk (HL.out.turn hm (bits BinOp.xor .u8 x 1) (byte_bits x 1))
   obtain ⟨ys, hys⟩ : ∃ ys, xs.set mm (bits BinOp.xor .u8 x 1) = ys := ⟨_, rfl⟩
   rw [hys] at HL1
   obtain ⟨wt, hwt⟩ : ∃ wt, wr.setCell ⟨f, mm, none⟩ (.int .u8 (bits BinOp.xor .u8 x 1)) = wt := ⟨_, rfl⟩
   rw [hwt] at HL1
   have hst : wt.heap.size = wr.heap.size := by rw [← hwt]; simp
   have HNO := Aside0.mk (no_row wt wt.heap.size (Nat.le_refl _))
   rw [hst] at HNO
   have hlen := HL1.out.len.1
   have HLN := Aside0.mk hlen
   have HCY := HL1.out.row
   rw [hlen] at HCY
   have HCX := Aside0.mk (Kd.C_below HCY (below_alloc (Below.refl _ _) (.cells #[] 5)))
   have HBA := Aside0.mk (show Below wr.heap.size wt (wt.alloc (.cells #[] 5)) from by rw [← hst]; exact below_alloc (Below.refl _ _) _)
   have hsa : wr.heap.size ≤ (wt.alloc (.cells #[] 5)).heap.size := by simp; omega
   have hb0 : 0 + bs.length ≤ 140737488355328 := by omega
   clear hys hlen HCY HL hx
   go_wp2_with (first | (at_builtin; refine Kd.R_append_row (w0 := wt) (Value.int .u8) 0 (h1 := fun _ => rfl) wr.heap.size rfl (.tmp 78) (.tmp 79) 47 5 (.int .u8 0) 1 rfl Tryd.underlying47 info5 rfl (by decide) (.slice (some ⟨wr.heap.size, 0, none⟩) 0 0) [] ys (some ⟨f, 0, none⟩) bs.length c' (fun _ => True) rfl (by first | (go_simp; done) | (go_simp; rfl)) (fun _ _ => trivial) HNO.out HCX.out HBA.out hsa (by first | omega | (simp only [List.length_nil]; omega)) ?_; intro v9 w9 ho9 hb9 hg9 hat9; have ho9 : (Kd.int .u8).R 5 w9 wr.heap.size (fun _ => True) v9 ys := ho9; obtain ⟨A9, c9, rfl, hl9, hC9⟩ := Kd.R_reads ho9; have HB9 := Aside0.mk hb9; have HC9 := Aside0.mk (And.intro hl9 hC9); clear ho9 hb9 hg9 hat9 hl9 hC9))
   have HB2 := Aside0.mk (HL1.out.below (HB9.out.trans (Below.refl _ _) |> fun h => (show Below wt.heap.size wt w9 from by rw [hst]; exact h)))
   have HRR := Aside0.mk (RefRead_any A9 c9 ys w9 HB2.out.bx (by have := HLN.out; omega) HC9.out.1 HC9.out.2)
   have HTM := Aside0.mk (told_tame ys (by have := HLN.out; omega))
   obtain ⟨R2, hR2⟩ : ∃ R2, readR ys = R2 := ⟨_, rfl⟩
   rw [hR2] at HRR HTM
   have HR2 := Aside0.mk hR2
   clear hR2 HL1 HB9 HC9 HNO HCX HBA hsa hwt hst hmid hfz e1 e2
   refine HRR.out.mono ?_
   clear HRR
   intro en wb hp
   obtain ⟨hbb, E0, E1, E2, E3, E4, e0, e1, e2, e3, e4, rfl, hrd⟩ := hp.plain
   obtain ⟨g2, hg⟩ : ∃ g2, toldG R2 = g2 := ⟨_, rfl⟩
   obtain ⟨q', hq⟩ : ∃ q', toldN R2 = q' := ⟨_, rfl⟩
   obtain ⟨k', hk⟩ : ∃ k', toldE R2 = k' := ⟨_, rfl⟩
   rw [hg, hq, hk]
   rw [hg] at hrd HTM
   have HRD := Aside0.mk hrd
   have HTO2 := Aside0.mk (And.intro hg (And.intro hq hk))
   have HL3 := Aside0.mk (HB2.out.below hbb)
   clear hg hq hk hrd hbb hp HB2
   obtain ⟨y0, y1, y2, y3, y4, y5, hb3⟩ := HL3.out.b3
   have a0 := (blk_cell hb3 0).trans (show _ = some (y0) from rfl)
   have a1 := (blk_cell hb3 1).trans (show _ = some (y1) from rfl)
   have a2 := (blk_cell hb3 2).trans (show _ = some (y2) from rfl)
   have a3 := (blk_cell hb3 3).trans (show _ = some (y3) from rfl)
   have a4 := (blk_cell hb3 4).trans (show _ = some (y4) from rfl)
   have a5 := (blk_cell hb3 5).trans (show _ = some (y5) from rfl)
   have r0 := blk_frozen hb3 0
   have r1 := blk_frozen hb3 1
   have r2 := blk_frozen hb3 2
   have r3 := blk_frozen hb3 3
   have r4 := blk_frozen hb3 4
   have r5 := blk_frozen hb3 5

   have HL4 := Aside0.mk (HL3.out.set3 (.slice E0 g2.objs.length e0) (.slice E1 g2.slots.length e1) (.slice E2 g2.handles.length e2) (.slice E3 g2.registry.length e3) (.slice E4 g2.queue.length e4) (.int .u64 g2.next))
   have HRD4 := Aside0.mk (HRD.out.set hb3 (.slice E0 g2.objs.length e0) (.slice E1 g2.slots.length e1) (.slice E2 g2.handles.length e2) (.slice E3 g2.registry.length e3) (.slice E4 g2.queue.length e4) (.int .u64 g2.next))
   have HK3 := Aside0.mk (set6_blk (.slice E0 g2.objs.length e0) (.slice E1 g2.slots.length e1) (.slice E2 g2.handles.length e2) (.slice E3 g2.registry.length e3) (.slice E4 g2.queue.length e4) (.int .u64 g2.next) hb3)
   have HCL := HL4.out.row
   rw [HLN.out] at HCL
   have HRI := Aside0.mk (Read_any (some ⟨f, 0, none⟩) c' ys _ HL4.out.bx (by have := HLN.out; omega) (by have := HLN.out; omega) HL4.out.row (HT.out.below HL4.out.bel))
   rw [HLN.out, HR2.out] at HRI
   clear HCL HRD HL3 hb3
   go_wp2_with (fail)
   refine HRI.out.mono ?_
   clear HRI a0 r0 a1 r1 a2 r2 a3 r3 a4 r4 a5 r5
   intro en wc hp
   obtain ⟨hbc, D0, D1, D2, D3, D4, p0, p1', p2, p3, p4, rfl, hrd8⟩ := hp.plain
   rw [HTO2.out.1, HTO2.out.2.1, HTO2.out.2.2]
   rw [HTO2.out.1] at hrd8
   have HL5 := Aside0.mk (HL4.out.below hbc)
   have hrd3 := HRD4.out.on hbc
   have hk3 := blk_below HK3.out hbc
   obtain ⟨z0, z1, z2, z3, z4, z5, hb8⟩ := HL5.out.b8
   have hne : ¬ k3 = k8 := HL5.out.ne
   have hne' : ¬ k8 = k3 := fun e => hne e.symm
   have HL6 := Aside0.mk (HL5.out.set8 (.slice D0 g2.objs.length p0) (.slice D1 g2.slots.length p1') (.slice D2 g2.handles.length p2) (.slice D3 g2.registry.length p3) (.slice D4 g2.queue.length p4) (.int .u64 g2.next))
   have HS := Aside0.mk (sameGr_any ⟨D0, D1, D2, D3, D4, p0, p1', p2, p3, p4⟩ ⟨E0, E1, E2, E3, E4, e0, e1, e2, e3, e4⟩ g2 HTM.out _ (hrd8.set hb8 (.slice D0 g2.objs.length p0) (.slice D1 g2.slots.length p1') (.slice D2 g2.handles.length p2) (.slice D3 g2.registry.length p3) (.slice D4 g2.queue.length p4) (.int .u64 g2.next)).rd (hrd3.set hb8 (.slice D0 g2.objs.length p0) (.slice D1 g2.slots.length p1') (.slice D2 g2.handles.length p2) (.slice D3 g2.registry.length p3) (.slice D4 g2.queue.length p4) (.int .u64 g2.next)).rd)
   have b0 := (blk_cell hb8 0).trans (show _ = some (z0) from rfl)
   have b1 := (blk_cell hb8 1).trans (show _ = some (z1) from rfl)
   have b2 := (blk_cell hb8 2).trans (show _ = some (z2) from rfl)
   have b3 := (blk_cell hb8 3).trans (show _ = some (z3) from rfl)
   have b4 := (blk_cell hb8 4).trans (show _ = some (z4) from rfl)
   have b5 := (blk_cell hb8 5).trans (show _ = some (z5) from rfl)
   have s0 := blk_frozen hb8 0
   have s1 := blk_frozen hb8 1
   have s2 := blk_frozen hb8 2
   have s3 := blk_frozen hb8 3
   have s4 := blk_frozen hb8 4
   have s5 := blk_frozen hb8 5
   have l0 := (blk_cell hk3 0).trans (show _ = some (Value.slice E0 g2.objs.length e0) from rfl)
   have l1 := (blk_cell hk3 1).trans (show _ = some (Value.slice E1 g2.slots.length e1) from rfl)
   have l2 := (blk_cell hk3 2).trans (show _ = some (Value.slice E2 g2.handles.length e2) from rfl)
   have l3 := (blk_cell hk3 3).trans (show _ = some (Value.slice E3 g2.registry.length e3) from rfl)
   have l4 := (blk_cell hk3 4).trans (show _ = some (Value.slice E4 g2.queue.length e4) from rfl)
   have l5 := (blk_cell hk3 5).trans (show _ = some (Value.int .u64 g2.next) from rfl)
   clear HL4 HL5 HRD4 HK3 hbc hp hrd8 hrd3 hk3 hb8
   go_wp2_with (go_at_call 12; refine (num_is _ _).mono ?_; rintro en w' ⟨rfl, rfl⟩)
   refine HS.out.mono ?_
   rintro en we ⟨rfl, hbe⟩
   have HL7 := Aside0.mk (HL6.out.below hbe)
   clear hbe HS HL6 b0 s0 l0 b1 s1 l1 b2 s2 l2 b3 s3 l3 b4 s4 l4 b5 s5 l5
   go_wp2_with (fail)
   go_roundw
   case rel => exact ⟨i + 1, ys, by omega, by go_num, HL7⟩
   case measure => simp [intOf]; omega
  ·have p1 : ¬ (i : Int) < 2 := by omega
   go_wp2_with (fail)
   refine (Hold_any _ _ 4000000000000 C1 ρ1 _ HL.out.rm (Nat.le_refl _)).mono ?_
   rintro en w9 ⟨rfl, hb9⟩
   have HL4 := Aside0.mk (HL.out.below hb9)
   clear hb9 HL
   go_wp2_with (fail)
   go_ret
   exact ⟨rfl, HL4.out.bel⟩
end Go.Proofs.YtihjjkoddphmiaaDoor.img
