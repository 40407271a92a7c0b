/-
  The walks of the law's sameInts, sameObject and sameGraph, of what reads as one thing: true.
-/
import Derived.Test.YtihjjkoddphmiaaGreatDoorNIm3
import Derived.Deep.RegionHeld3
import Derived.Laws.Rows
import Derived.Laws.CopyRow
import Derived.Deep.DeepCutAuto
namespace Go.Proofs.YtihjjkoddphmiaaGreatDoor.img
open Go.RowKit Go.Proofs.YtihjjkoddphmiaaGreatDoorW.PrintWords Go.Proofs.YtihjjkoddphmiaaGreatDoorW.PrintLast Go.Proofs.YtihjjkoddphmiaaGreatDoorW.PrintMore Go.Proofs.YtihjjkoddphmiaaGreatDoor.PImageApart
set_option linter.unusedVariables false
set_option linter.unusedSimpArgs false

abbrev S6 (b : Nat) (v0 v1 v2 v3 v4 v5 : Value) (w' : World) : Prop :=
 w'.cell? ⟨b, 0, none⟩ = some v0 ∧ w'.cell? ⟨b, 1, none⟩ = some v1 ∧ w'.cell? ⟨b, 2, none⟩ = some v2 ∧ w'.cell? ⟨b, 3, none⟩ = some v3 ∧ w'.cell? ⟨b, 4, none⟩ = some v4 ∧ w'.cell? ⟨b, 5, none⟩ = some v5
theorem S6.of {b t : Nat} {v0 v1 v2 v3 v4 v5 : Value} {w' : World} (h : w'.heap[b]? = some (.cells #[v0, v1, v2, v3, v4, v5] t (0, 0))) : S6 b v0 v1 v2 v3 v4 v5 w' :=
 ⟨(blk_cell h 0).trans rfl, (blk_cell h 1).trans rfl, (blk_cell h 2).trans rfl, (blk_cell h 3).trans rfl, (blk_cell h 4).trans rfl, (blk_cell h 5).trans rfl⟩
theorem num_at {k : IntKind} {A : Option Addr} {w : World} {l : List Int} (h : (Kd.int k).C w A l.length l) {i : Nat} (hi : i < l.length) : ∃ ad, A = some ad ∧ w.cell? (ad.add i) = some (.int k (l.getD i 0)) := by
 obtain ⟨ad, cs, e, hcl, hK, hcc⟩ := Kd.C_get h 0 (i : Int) (by omega) (by omega)
 refine ⟨ad, e, ?_⟩
 have := hcc 0 (.int k (l.getD i 0)) (by rw [show cs = _ from hK]; rfl)
 simpa [Kd.int, Kd.scalar] using this

set_option maxHeartbeats 8000000 in
set_option maxRecDepth 100000 in
theorem sameI_any (A B : Option Addr) (c d : Nat) (l : List Int) (w : World) (hl : l.length ≤ 1000000) (hA : (Kd.int .i64).C w A l.length l) (hB : (Kd.int .i64).C w B l.length l) :
  Calls Tryz.prog 29 #[.slice A l.length c, .slice B l.length d] w fun e w' => e = .returned (.bool true) ∧ Below w.heap.size w w' := by
 have HA := Aside0.mk hA
 have HB := Aside0.mk hB
 have HS := Aside0.mk (Below.refl w.heap.size w)
 clear hA hB
 go_enter Tryz.func29, Tryz.ntmps29
 go_wp2
 go_loopw [5] (fun i wr => ∃ k : Nat, k ≤ l.length ∧ i = .int .i64 k ∧ Aside0 (Below w.heap.size w wr)) (fun i _ => l.length - (intOf i).toNat)
 case atStart => exact ⟨0, Nat.zero_le _, rfl, HS⟩
 case round =>
  clear HS
  obtain ⟨k, hk, rfl, HX⟩ := hrel
  by_cases hlt : k < l.length
  ·obtain ⟨ad, rfl, h1⟩ := num_at HA.out hlt
   obtain ⟨bd, rfl, h2⟩ := num_at HB.out hlt
   replace h1 := pw_cell_below HX.out h1
   replace h2 := pw_cell_below HX.out h2
   generalize l.getD k 0 = x at h1 h2
   go_wp2_with (fail)
   go_quiet (fail)
   go_wp2_with (fail)
   go_roundw
   case rel => exact ⟨k + 1, by omega, by go_num, ⟨pw_below_drewN HX.out _⟩⟩
   case measure => simp [intOf]; omega
  ·go_wp2_with (fail)
   go_ret
   exact ⟨rfl, HX.out⟩

abbrev ov (o : S66) (A3 : Option Addr) (c3 : Nat) (A4 : Option Addr) (c4 : Nat) : Array Value := #[.int .u64 o.f0, .int .i64 o.f1, .int .i64 o.f2, .slice A3 o.f3.length c3, .slice A4 o.f4.length c4]
set_option maxHeartbeats 8000000 in
set_option maxRecDepth 100000 in
theorem sameO_any (o : S66) (A3 A4 B3 B4 : Option Addr) (c3 c4 d3 d4 : Nat) (w : World) (h3 : o.f3.length ≤ 1000000) (h4 : o.f4.length ≤ 1000000) (hA3 : (Kd.int .i64).C w A3 o.f3.length o.f3) (hB3 : (Kd.int .i64).C w B3 o.f3.length o.f3) (hA4 : (Kd.int .u64).C w A4 o.f4.length o.f4) (hB4 : (Kd.int .u64).C w B4 o.f4.length o.f4) :
  Calls Tryz.prog 30 #[.agg (ov o A3 c3 A4 c4), .agg (ov o B3 d3 B4 d4)] w fun e w' => e = .returned (.bool true) ∧ Below w.heap.size w w' := by
 obtain ⟨W, hW⟩ : ∃ W, W = (w.alloc (.cells (ov o A3 c3 A4 c4) 66)).alloc (.cells (ov o B3 d3 B4 d4) 66) := ⟨_, rfl⟩
 have HB : Aside0 (Below w.heap.size w W) := ⟨by rw [hW]; exact below_alloc (below_alloc (Below.refl _ _) _) _⟩
 have HKa : Aside0 (W.heap[w.heap.size]? = some (.cells (ov o A3 c3 A4 c4) 66 (0, 0))) := ⟨by rw [hW]; exact blk_alloc (heap_alloc_new w _) _⟩
 have HKb : Aside0 (W.heap[w.heap.size + 1]? = some (.cells (ov o B3 d3 B4 d4) 66 (0, 0))) := ⟨by
  rw [hW]
  have := heap_alloc_new (w.alloc (.cells (ov o A3 c3 A4 c4) 66)) (.cells (ov o B3 d3 B4 d4) 66)
  simpa using this⟩
 have HW := Aside0.mk hW
 have HC4 := Aside0.mk (And.intro (Kd.C_below hA4 HB.out) (Kd.C_below hB4 HB.out))
 have HI := Aside0.mk (sameI_any A3 B3 c3 d3 o.f3 W h3 (Kd.C_below hA3 HB.out) (Kd.C_below hB3 HB.out))
 have a0 : W.cell? ⟨w.heap.size, 0, none⟩ = some (.int .u64 o.f0) := (blk_cell HKa.out 0).trans rfl
 have a1 : W.cell? ⟨w.heap.size, 1, none⟩ = some (.int .i64 o.f1) := (blk_cell HKa.out 1).trans rfl
 have a2 : W.cell? ⟨w.heap.size, 2, none⟩ = some (.int .i64 o.f2) := (blk_cell HKa.out 2).trans rfl
 have a3 : W.cell? ⟨w.heap.size, 3, none⟩ = some (.slice A3 o.f3.length c3) := (blk_cell HKa.out 3).trans rfl
 have b0 : W.cell? ⟨w.heap.size + 1, 0, none⟩ = some (.int .u64 o.f0) := (blk_cell HKb.out 0).trans rfl
 have b1 : W.cell? ⟨w.heap.size + 1, 1, none⟩ = some (.int .i64 o.f1) := (blk_cell HKb.out 1).trans rfl
 have b2 : W.cell? ⟨w.heap.size + 1, 2, none⟩ = some (.int .i64 o.f2) := (blk_cell HKb.out 2).trans rfl
 have b3 : W.cell? ⟨w.heap.size + 1, 3, none⟩ = some (.slice B3 o.f3.length d3) := (blk_cell HKb.out 3).trans rfl
 clear hW hA3 hB3 hA4 hB4
 go_enter Tryz.func30, Tryz.ntmps30
 go_upto_region 1 with (fail)
 rw [← HW.out]
 go_wp2_with (fail)
 refine HI.out.mono ?_
 rintro en w1 ⟨rfl, hb1⟩
 have HX := Aside0.mk hb1
 clear hb1 HI a0 a1 a2 a3 b0 b1 b2 b3
 have a4 : w1.cell? ⟨w.heap.size, 4, none⟩ = some (.slice A4 o.f4.length c4) := pw_cell_below HX.out ((blk_cell HKa.out 4).trans rfl)
 have b4 : w1.cell? ⟨w.heap.size + 1, 4, none⟩ = some (.slice B4 o.f4.length d4) := pw_cell_below HX.out ((blk_cell HKb.out 4).trans rfl)
 go_wp2_with (fail)
 go_loopw [5] (fun i wr => ∃ k : Nat, k ≤ o.f4.length ∧ i = .int .i64 k ∧ Aside0 (Below W.heap.size W wr)) (fun i _ => o.f4.length - (intOf i).toNat)
 case atStart => exact ⟨0, Nat.zero_le _, rfl, HX⟩
 case round =>
  clear HX a4 b4
  obtain ⟨k, hk, rfl, HX⟩ := hrel
  have a4 : wr.cell? ⟨w.heap.size, 4, none⟩ = some (.slice A4 o.f4.length c4) := pw_cell_below HX.out ((blk_cell HKa.out 4).trans rfl)
  have b4 : wr.cell? ⟨w.heap.size + 1, 4, none⟩ = some (.slice B4 o.f4.length d4) := pw_cell_below HX.out ((blk_cell HKb.out 4).trans rfl)
  by_cases hlt : k < o.f4.length
  ·obtain ⟨ad, rfl, h1⟩ := num_at HC4.out.1 hlt
   obtain ⟨bd, rfl, h2⟩ := num_at HC4.out.2 hlt
   replace h1 := pw_cell_below HX.out h1
   replace h2 := pw_cell_below HX.out h2
   generalize o.f4.getD k 0 = x at h1 h2
   go_wp2_with (fail)
   go_quiet (fail)
   go_wp2_with (fail)
   go_roundw
   case rel => exact ⟨k + 1, by omega, by go_num, ⟨pw_below_drewN HX.out _⟩⟩
   case measure => simp [intOf]; omega
  ·go_wp2_with (fail)
   go_ret
   exact ⟨rfl, below_step HB.out HX.out⟩

/-- Two graphs' variables that read as one graph. -/
structure Two (w W : World) (L M : Lay) (g : Gr) (wr : World) : Prop where
 bel : Below w.heap.size w wr
 a : wr.heap[w.heap.size]? = some (.cells (gcells L g).toArray 44 (0, 0))
 b : wr.heap[w.heap.size + 1]? = some (.cells (gcells M g).toArray 44 (0, 0))
theorem Two.below {w W wr w2 : World} {L M : Lay} {g : Gr} (h : Two w W L M g wr) (hb : Below wr.heap.size wr w2) : Two w W L M g w2 := ⟨below_step h.bel hb, blk_below h.a hb, blk_below h.b hb⟩
theorem obj_at {A : Option Addr} {w : World} {l : List S66} (h : k66.C w A l.length l) {i : Nat} (hi : i < l.length) : ∃ ad A3 c3 A4 c4, A = some ad ∧ w.cell? (ad.add (i * 5)) = some (.int .u64 (l.getD i z66).f0) ∧ w.cell? ⟨(ad.add (i * 5)).block, (ad.add (i * 5)).off + 1, none⟩ = some (.int .i64 (l.getD i z66).f1) ∧ w.cell? ⟨(ad.add (i * 5)).block, (ad.add (i * 5)).off + 2, none⟩ = some (.int .i64 (l.getD i z66).f2) ∧
  w.cell? ⟨(ad.add (i * 5)).block, (ad.add (i * 5)).off + 3, none⟩ = some (.slice A3 (l.getD i z66).f3.length c3) ∧ w.cell? ⟨(ad.add (i * 5)).block, (ad.add (i * 5)).off + 4, none⟩ = some (.slice A4 (l.getD i z66).f4.length c4) ∧ (Kd.int .i64).C w A3 (l.getD i z66).f3.length (l.getD i z66).f3 ∧ (Kd.int .u64).C w A4 (l.getD i z66).f4.length (l.getD i z66).f4 := by
 have hel := at_T66 h (i : Int) (by omega) (by show (i : Int) < (l.length : Int); omega)
 obtain ⟨ad, A3, c3, A4, c4, e, q0, q1, q2, q3, q4, l3, C3, l4, C4⟩ := hel
 have hrd : rd_T66 l (i : Int) = l.getD i z66 := by simp [rd_T66]
 rw [hrd] at q0 q1 q2 q3 q4 C3 C4
 simp only [Int.toNat_natCast] at q0 q1 q2 q3 q4
 exact ⟨ad, A3, c3, A4, c4, e, q0, q1, q2, q3, q4, C3, C4⟩
theorem fr_at {A : Option Addr} {w : World} {l : List (List (List Int))} (h : (Kd.slice 25 (Kd.slice 3 (Kd.int .i64))).C w A l.length l) {i : Nat} (hi : i < l.length) : ∃ ad B c, A = some ad ∧ w.cell? (ad.add i) = some (.slice B (l.getD i []).length c) ∧ (Kd.slice 3 (Kd.int .i64)).C w B (l.getD i []).length (l.getD i []) := by
 obtain ⟨ad, B, c, e, h5, hl5, hC5⟩ := at_L5 h (i : Int) (by omega) (by show (i : Int) < (l.length : Int); omega)
 have hrd : rd_L5 l (i : Int) = l.getD i [] := by simp [rd_L5]
 rw [hrd] at h5 hC5
 exact ⟨ad, B, c, e, by simpa using h5, hC5⟩
theorem sl_at {A : Option Addr} {w : World} {l : List (List Int)} (h : (Kd.slice 3 (Kd.int .i64)).C w A l.length l) {i : Nat} (hi : i < l.length) : ∃ ad B c, A = some ad ∧ w.cell? (ad.add i) = some (.slice B (l.getD i []).length c) ∧ (Kd.int .i64).C w B (l.getD i []).length (l.getD i []) := by
 obtain ⟨ad, B, c, e, h5, hl5, hC5⟩ := at_L2 h (i : Int) (by omega) (by show (i : Int) < (l.length : Int); omega)
 have hrd : rd_L2 l (i : Int) = l.getD i [] := by simp [rd_L2]
 rw [hrd] at h5 hC5
 exact ⟨ad, B, c, e, by simpa using h5, hC5⟩

set_option maxHeartbeats 16000000 in
set_option maxRecDepth 100000 in
theorem sameGr_any (L M : Lay) (g : Gr) (ht : Tame g) (w : World) (h1 : Rd w L g) (h2 : Rd w M g) :
  Calls Tryz.prog 8 #[.agg (gcells L g).toArray, .agg (gcells M g).toArray] w fun e w' => e = .returned (.bool true) ∧ Below w.heap.size w w' := by
 obtain ⟨A0, A1, A2, A3, A4, a0, a1, a2, a3, a4⟩ := L
 obtain ⟨B0, B1, B2, B3, B4, b0, b1, b2, b3, b4⟩ := M
 obtain ⟨objs, slots, handles, registry, queue, next⟩ := g
 have HM := Aside0.mk ht
 have H1 := Aside0.mk h1
 have H2 := Aside0.mk h2
 have hl0 : objs.length ≤ 1000000 := ht.mild.objs
 have hl1 : slots.length ≤ 1000000 := ht.mild.slots
 obtain ⟨W, hW⟩ : ∃ W, W = (w.alloc (.cells (gcells ⟨A0, A1, A2, A3, A4, a0, a1, a2, a3, a4⟩ ⟨objs, slots, handles, registry, queue, next⟩).toArray 44)).alloc (.cells (gcells ⟨B0, B1, B2, B3, B4, b0, b1, b2, b3, b4⟩ ⟨objs, slots, handles, registry, queue, next⟩).toArray 44) := ⟨_, rfl⟩
 have HT0 : Aside0 (Two w W ⟨A0, A1, A2, A3, A4, a0, a1, a2, a3, a4⟩ ⟨B0, B1, B2, B3, B4, b0, b1, b2, b3, b4⟩ ⟨objs, slots, handles, registry, queue, next⟩ W) := ⟨by
  refine ⟨by rw [hW]; exact below_alloc (below_alloc (Below.refl _ _) _) _, by rw [hW]; exact blk_alloc (heap_alloc_new w _) _, ?_⟩
  have := heap_alloc_new (w.alloc (.cells (gcells ⟨A0, A1, A2, A3, A4, a0, a1, a2, a3, a4⟩ ⟨objs, slots, handles, registry, queue, next⟩).toArray 44)) (.cells (gcells ⟨B0, B1, B2, B3, B4, b0, b1, b2, b3, b4⟩ ⟨objs, slots, handles, registry, queue, next⟩).toArray 44)
  rw [hW]
  simpa using this⟩
 obtain ⟨T, hT⟩ : ∃ T : World → Prop, T = Two w W ⟨A0, A1, A2, A3, A4, a0, a1, a2, a3, a4⟩ ⟨B0, B1, B2, B3, B4, b0, b1, b2, b3, b4⟩ ⟨objs, slots, handles, registry, queue, next⟩ := ⟨_, rfl⟩
 rw [← hT] at HT0
 have HBL : Aside0 (∀ wr, T wr → Below w.heap.size w wr) := ⟨fun wr h => by rw [hT] at h; exact h.bel⟩
 have HTB : Aside0 (∀ wr w2, T wr → Below wr.heap.size wr w2 → T w2) := ⟨fun wr w2 h hb => by rw [hT] at h ⊢; exact h.below hb⟩
 have HTC : Aside0 (∀ wr, T wr → (S6 w.heap.size (.slice A0 objs.length a0) (.slice A1 slots.length a1) (.slice A2 handles.length a2) (.slice A3 registry.length a3) (.slice A4 queue.length a4) (.int .u64 next) wr ∧ S6 (w.heap.size + 1) (.slice B0 objs.length b0) (.slice B1 slots.length b1) (.slice B2 handles.length b2) (.slice B3 registry.length b3) (.slice B4 queue.length b4) (.int .u64 next) wr)) := ⟨fun wr h => by rw [hT] at h; exact ⟨S6.of h.a, S6.of h.b⟩⟩
 have HW := Aside0.mk hW
 have HI2 := Aside0.mk (fun (wx : World) (h : T wx) => sameI_any A2 B2 a2 b2 handles wx ht.mild.handles (Kd.C_below h1.r2 (HBL.out _ h)) (Kd.C_below h2.r2 (HBL.out _ h)))
 have HI3 := Aside0.mk (fun (wx : World) (h : T wx) => sameI_any A3 B3 a3 b3 registry wx ht.mild.registry (Kd.C_below h1.r3 (HBL.out _ h)) (Kd.C_below h2.r3 (HBL.out _ h)))
 have HI4 := Aside0.mk (fun (wx : World) (h : T wx) => sameI_any A4 B4 a4 b4 queue wx ht.mild.queue (Kd.C_below h1.r4 (HBL.out _ h)) (Kd.C_below h2.r4 (HBL.out _ h)))
 clear hW hT ht h1 h2
 obtain ⟨⟨x0, x1, x2, x3, x4, x5⟩, ⟨y0, y1, y2, y3, y4, y5⟩⟩ := HTC.out _ HT0.out
 go_enter Tryz.func8, Tryz.ntmps8
 go_upto_region 1 with (fail)
 rw [← HW.out]
 go_wp2_with (fail)
 refine (HI2.out _ HT0.out).mono ?_
 rintro en w1 ⟨rfl, hb1⟩
 have HT1 := Aside0.mk (HTB.out _ _ HT0.out hb1)
 clear hb1 HT0 x0 x1 x2 x3 x4 x5 y0 y1 y2 y3 y4 y5
 obtain ⟨⟨x0, x1, x2, x3, x4, x5⟩, ⟨y0, y1, y2, y3, y4, y5⟩⟩ := HTC.out _ HT1.out
 go_wp2_with (fail)
 refine (HI3.out _ HT1.out).mono ?_
 rintro en w2 ⟨rfl, hb2⟩
 have HT2 := Aside0.mk (HTB.out _ _ HT1.out hb2)
 clear hb2 HT1 x0 x1 x2 x3 x4 x5 y0 y1 y2 y3 y4 y5
 obtain ⟨⟨x0, x1, x2, x3, x4, x5⟩, ⟨y0, y1, y2, y3, y4, y5⟩⟩ := HTC.out _ HT2.out
 go_wp2_with (fail)
 refine (HI4.out _ HT2.out).mono ?_
 rintro en w3 ⟨rfl, hb3⟩
 have HT3 := Aside0.mk (HTB.out _ _ HT2.out hb3)
 clear hb3 HT2 HI2 HI3 HI4 x0 x1 x2 x3 x4 x5 y0 y1 y2 y3 y4 y5
 go_wp2_with (fail)
 go_loopw [5] (fun i wr => ∃ k : Nat, k ≤ objs.length ∧ i = .int .i64 k ∧ Aside0 (T wr)) (fun i _ => objs.length - (intOf i).toNat)
 case atStart => exact ⟨0, Nat.zero_le _, rfl, HT3⟩
 case round =>
  clear HT3
  obtain ⟨k, hk, rfl, HX⟩ := hrel
  obtain ⟨⟨x0, x1, x2, x3, x4, x5⟩, ⟨y0, y1, y2, y3, y4, y5⟩⟩ := HTC.out _ HX.out
  by_cases hlt : k < objs.length
  ·obtain ⟨ad, A5, k5, A6, k6, rfl, p0, p1, p2, p3, p4, C5, C6⟩ := obj_at (Kd.C_below H1.out.r0 (HBL.out _ HX.out)) hlt
   obtain ⟨bd, B5, j5, B6, j6, rfl, q0, q1, q2, q3, q4, D5, D6⟩ := obj_at (Kd.C_below H2.out.r0 (HBL.out _ HX.out)) hlt
   have hsz : (objs.getD k z66).f3.length ≤ 1000000 ∧ (objs.getD k z66).f4.length ≤ 1000000 := HM.out.objs _ (get_mem hlt)
   generalize objs.getD k z66 = o at *
   have hd : Below wr.heap.size wr wr.drew := below_drew (Below.refl _ _)
   have HXD := Aside0.mk (HTB.out _ _ HX.out hd)
   have HO := Aside0.mk (sameO_any o A5 A6 B5 B6 k5 k6 j5 j6 wr.drew hsz.1 hsz.2 (Kd.C_below C5 hd) (Kd.C_below D5 hd) (Kd.C_below C6 hd) (Kd.C_below D6 hd))
   clear C5 C6 D5 D6 hsz hd
   go_wp2_with (fail)
   go_still_tail 10, (by kernel_rfl)
   change wpList _ _ _ _ _ wr.drew
   generalize wr.drew = wd at *
   go_wp2_with (fail)
   refine HO.out.mono ?_
   rintro en w4 ⟨rfl, hb4⟩
   have HX4 := Aside0.mk (HTB.out _ _ HXD.out hb4)
   clear hb4 HXD HO
   go_wp2_with (fail)
   go_roundw
   case rel => exact ⟨k + 1, by omega, by go_num, HX4⟩
   case measure => simp [intOf]; omega
  ·go_wp2_with (fail)
   go_loopw [6] (fun i wr => ∃ t : Nat, t ≤ slots.length ∧ i = .int .i64 t ∧ Aside0 (T wr)) (fun i _ => slots.length - (intOf i).toNat)
   case atStart => exact ⟨0, Nat.zero_le _, rfl, HX⟩
   case round =>
    clear HX x0 x1 x2 x3 x4 x5 y0 y1 y2 y3 y4 y5
    obtain ⟨t, htl, rfl, HX⟩ := hrel
    obtain ⟨⟨x0, x1, x2, x3, x4, x5⟩, ⟨y0, y1, y2, y3, y4, y5⟩⟩ := HTC.out _ HX.out
    by_cases hlt2 : t < slots.length
    ·obtain ⟨ad, A5, k5, rfl, p0, C5⟩ := fr_at (Kd.C_below H1.out.r1 (HBL.out _ HX.out)) hlt2
     obtain ⟨bd, B5, j5, rfl, q0, D5⟩ := fr_at (Kd.C_below H2.out.r1 (HBL.out _ HX.out)) hlt2
     have hmem : slots.getD t [] ∈ slots := get_mem hlt2
     have hfl : (slots.getD t []).length ≤ 1000000 := HM.out.mild.frames _ hmem
     have HSL := Aside0.mk (HM.out.mild.slot _ hmem)
     generalize slots.getD t [] = fr at *
     have HC5 := Aside0.mk (And.intro C5 D5)
     have HP0 := Aside0.mk (And.intro p0 q0)
     clear C5 D5 hmem
     go_wp2_with (fail)
     go_quiet (fail)
     go_wp2_with (fail)
     have HXN : Aside0 (∀ n, T (wr.drewN n) ∧ Below wr.heap.size wr (wr.drewN n)) := ⟨fun n => ⟨HTB.out _ _ HX.out (pw_below_drewN (Below.refl wr.heap.size wr) n), pw_below_drewN (Below.refl wr.heap.size wr) n⟩⟩
     go_loopw [7] (fun i w2 => ∃ f : Nat, f ≤ fr.length ∧ i = .int .i64 f ∧ Aside0 (T w2 ∧ Below wr.heap.size wr w2)) (fun i _ => fr.length - (intOf i).toNat)
     case atStart => exact ⟨0, Nat.zero_le _, rfl, ⟨HXN.out _⟩⟩
     case round =>
      clear HXN x0 x1 x2 x3 x4 x5 y0 y1 y2 y3 y4 y5 p0 q0
      obtain ⟨f, hf, rfl, HX2⟩ := hrel
      obtain ⟨⟨x0, x1, x2, x3, x4, x5⟩, ⟨y0, y1, y2, y3, y4, y5⟩⟩ := HTC.out _ HX2.out.1
      have p0 := pw_cell_below HX2.out.2 HP0.out.1
      have q0 := pw_cell_below HX2.out.2 HP0.out.2
      by_cases hlf : f < fr.length
      ·obtain ⟨ad2, A6, k6, rfl, p1, C6⟩ := sl_at (Kd.C_below HC5.out.1 HX2.out.2) hlf
       obtain ⟨bd2, B6, j6, rfl, q1, D6⟩ := sl_at (Kd.C_below HC5.out.2 HX2.out.2) hlf
       have hsl := HSL.out _ (get_mem (d := []) hlf)
       generalize fr.getD f [] = sl at *
       have hd : Below wr.heap.size wr wr.drew := below_drew (Below.refl _ _)
       have HXD := Aside0.mk (And.intro (HTB.out _ _ HX2.out.1 hd) (below_step HX2.out.2 hd))
       have HO := Aside0.mk (sameI_any A6 B6 k6 j6 sl wr.drew hsl (Kd.C_below C6 hd) (Kd.C_below D6 hd))
       clear C6 D6 hsl hd
       go_wp2_with (fail)
       go_still_tail 16, (by kernel_rfl)
       change wpList _ _ _ _ _ wr.drew
       generalize wr.drew = wd at *
       go_wp2_with (fail)
       refine HO.out.mono ?_
       rintro en w4 ⟨rfl, hb4⟩
       have HX4 := Aside0.mk (And.intro (HTB.out _ _ HXD.out.1 hb4) (below_step HXD.out.2 hb4))
       clear hb4 HXD HO
       go_wp2_with (fail)
       go_roundw
       case rel => exact ⟨f + 1, by omega, by go_num, HX4⟩
       case measure => simp [intOf]; omega
      ·go_wp2_with (fail)
       go_roundw
       case rel => exact ⟨t + 1, by omega, by go_num, ⟨HX2.out.1⟩⟩
       case measure => simp [intOf]; omega
    ·go_wp2_with (fail)
     go_ret
     exact ⟨rfl, HBL.out _ HX.out⟩
end Go.Proofs.YtihjjkoddphmiaaGreatDoor.img
