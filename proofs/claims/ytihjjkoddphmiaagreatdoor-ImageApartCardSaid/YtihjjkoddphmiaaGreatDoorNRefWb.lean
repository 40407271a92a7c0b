/-
  The walk of middenref16.Write by hand.
-/
import Derived.Test.YtihjjkoddphmiaaGreatDoorNRefNb
import Derived.Test.YtihjjkoddphmiaaGreatDoorNRefCheck
namespace Go.Proofs.YtihjjkoddphmiaaGreatDoor.img
open Go.RowKit Go.Proofs.YtihjjkoddphmiaaGreatDoorW.PrintWords Go.Proofs.YtihjjkoddphmiaaGreatDoorW.PrintLast Go.Proofs.YtihjjkoddphmiaaGreatDoorW.PrintMore Go.Proofs.YtihjjkoddphmiaaGreatDoor.PImageApart
set_option linter.unusedVariables false
set_option linter.unusedSimpArgs false

/-- Write's world: blocks that stay, and the bytes so far: all of BD but for what is left. -/
structure WS (w0 : World) (BD : List Int) (bl : List (Nat × Array Value × Nat)) (rest : List Int) (v : Value) (w : World) : Prop where
 ex : ∃ us, Bw w0 v us w ∧ us ++ rest = BD
 lim : BD.length ≤ 1000000000000
 blk : ∀ p ∈ bl, p.2.2 ≠ 5 ∧ w.heap[p.1]? = some (.cells p.2.1 p.2.2 (0, 0))
section
variable {w0 w : World} {BD rest : List Int} {bl : List (Nat × Array Value × Nat)} {v : Value}
theorem app_le {xs ys zs : List Int} {n : Nat} (h : xs ++ ys = zs) (hz : zs.length ≤ n) : xs.length ≤ n := by
 have := congrArg List.length h
 rw [List.length_append] at this
 omega
theorem WS.bel (h : WS w0 BD bl rest v w) : Below w0.heap.size w0 w := by
 obtain ⟨us, hb, -⟩ := h.ex
 exact hb.bel
theorem WS.step {f : Nat} {az : Array Value} {e : List Int} (h : WS w0 BD bl (e ++ rest) v w) (hc : ∀ us, Bw w0 v us w → us ++ (e ++ rest) = BD → (us ++ e) ++ rest = BD → Calls Tryz.prog f az w fun en w' => ∃ v', en = .returned v' ∧ Bw w0 v' (us ++ e) w' ∧ KP w w') :
  Calls Tryz.prog f az w fun en w' => ∃ v', en = .returned v' ∧ WS w0 BD bl rest v' w' := by
 obtain ⟨us, hb, he⟩ := h.ex
 have he2 : (us ++ e) ++ rest = BD := by rw [List.append_assoc]; exact he
 refine (hc us hb he he2).mono ?_
 rintro en w' ⟨v', rfl, h1, h2⟩
 exact ⟨v', rfl, ⟨_, h1, he2⟩, h.lim, fun p hp => ⟨(h.blk p hp).1, h2.keep _ _ _ (h.blk p hp).1 (h.blk p hp).2⟩⟩
theorem WS.num (x : Int) (h : WS w0 BD bl (enc x.toNat ++ rest) v w) (hx : 0 ≤ x ∧ x < 18446744073709551616) :
  Calls Tryz.prog 35 #[v, .int .u64 x] w fun en w' => ∃ v', en = .returned v' ∧ WS w0 BD bl rest v' w' :=
 h.step fun us hb he he2 => by
  have := bnumber x.toNat (by omega) (app_le he h.lim) hb
  rwa [show ((x.toNat : Nat) : Int) = x by omega] at this
theorem WS.ints (A : Option Addr) (c : Nat) (l : List Int) (more : Int) (h : WS w0 BD bl (encL (encI more) l ++ rest) v w) (hm : 0 ≤ more ∧ more ≤ 1) (hl : l.length ≤ 1000000) (hx : ∀ x ∈ l, 0 ≤ x + more ∧ x + more ≤ 4611686018427387905) (hC : (Kd.int .i64).C w0 A l.length l) :
  Calls Tryz.prog 36 #[v, .slice A l.length c, .int .i64 more] w fun en w' => ∃ v', en = .returned v' ∧ WS w0 BD bl rest v' w' :=
 h.step fun us hb he he2 => bints A c l more hm hl hx (app_le he2 h.lim) hC hb
theorem WS.alloc (h : WS w0 BD bl rest v w) (O : Array Value) (t : Nat) (ht : t ≠ 5) : WS w0 BD ((w.heap.size, O, t) :: bl) rest v (w.alloc (.cells O t)) := by
 obtain ⟨us, hb, he⟩ := h.ex
 have hB := below_alloc (Below.refl w.heap.size w) (.cells O t)
 refine ⟨⟨us, hb.after hB, he⟩, h.lim, fun p hp => ?_⟩
 rcases List.mem_cons.1 hp with rfl | hp
 ·exact ⟨ht, heap_alloc_new _ _⟩
 ·exact ⟨(h.blk p hp).1, blk_below (h.blk p hp).2 hB⟩
theorem WS.tail {p : Nat × Array Value × Nat} (h : WS w0 BD (p :: bl) rest v w) : WS w0 BD bl rest v w := ⟨h.ex, h.lim, fun q hq => h.blk q (List.mem_cons_of_mem _ hq)⟩
theorem WS.g6 {v0 v1 v2 v3 v4 v5 : Value} {b t : Nat} (h : WS w0 BD bl rest v w) (hm : (b, #[v0, v1, v2, v3, v4, v5], t) ∈ bl) : S6 b v0 v1 v2 v3 v4 v5 w := S6.of (h.blk _ hm).2
theorem WS.g5 {v0 v1 v2 v3 v4 : Value} {b t : Nat} (h : WS w0 BD bl rest v w) (hm : (b, #[v0, v1, v2, v3, v4], t) ∈ bl) : w.cell? ⟨b, 0, none⟩ = some v0 ∧ w.cell? ⟨b, 1, none⟩ = some v1 ∧ w.cell? ⟨b, 2, none⟩ = some v2 ∧ w.cell? ⟨b, 3, none⟩ = some v3 ∧ w.cell? ⟨b, 4, none⟩ = some v4 := by
 have h := (h.blk _ hm).2
 exact ⟨(blk_cell h 0).trans rfl, (blk_cell h 1).trans rfl, (blk_cell h 2).trans rfl, (blk_cell h 3).trans rfl, (blk_cell h 4).trans rfl⟩
end
def tl : Nat → Nat → List Int
 | 0, _ => []
 | d + 1, s => ((s % 256 : Nat) : Int) :: tl d (s / 256)
theorem sb_tl (N : Nat) : sb N = tl 4 N := by simp [sb, tl, Nat.div_div_eq_div_mul]
def outB (g : Gr) : List Int := if okB g = true then image g else []
def outC (g : Gr) : Int := if okB g = true then 0 else 164
set_option maxHeartbeats 8000000 in
set_option maxRecDepth 100000 in
theorem RefWrite_R (L : Lay) (g : Gr) (hn : Near g) (hw : Words g) (hr : (rootL g).length ≤ 1000000000) (w : World) (hR : Rd w L g) :
  Calls Tryz.prog 10 #[.agg (gcells L g).toArray] w fun e w' => ∃ v, e = .returned (.tuple #[v, .int .i64 (outC g)]) ∧ (Kd.int .u8).R 5 w' w.heap.size (fun _ => True) v (outB g) ∧ Below w.heap.size w w' := by
 have hC0 : Below w.heap.size w (w.alloc (.cells (gcells L g).toArray 44)) := below_alloc (Below.refl _ _) _
 have HC := Aside0.mk (RefCheck_any L g hn.tame hr (w.alloc (.cells (gcells L g).toArray 44)) (hR.below hC0))
 have HB := Aside0.mk hC0
 have HR := Aside0.mk hR
 obtain ⟨A0, A1, A2, A3, A4, k0, k1, k2, k3, k4⟩ := L
 obtain ⟨ok, hok⟩ : ∃ ok, okB g = ok := ⟨_, rfl⟩
 have HG := fun h : ok = true => And.intro (good_of hn hw (hok.trans h)) ((good_of hn hw (hok.trans h)).len hn)
 unfold outB outC
 rw [hok] at HC ⊢
 have HN := Aside0.mk hn
 obtain ⟨I, hI⟩ : ∃ I, image g = I := ⟨_, rfl⟩
 have HI := Aside0.mk hI
 rw [hI]
 clear hn hw hr hR hC0 hok hI
 obtain ⟨objs, slots, handles, registry, queue, next⟩ := g
 simp only [gcells] at HC HB ⊢
 obtain ⟨W, hW⟩ : ∃ W, W = w.alloc (.cells #[.slice A0 objs.length k0, .slice A1 slots.length k1, .slice A2 handles.length k2, .slice A3 registry.length k3, .slice A4 queue.length k4, .int .u64 next] 44) := ⟨_, rfl⟩
 have HK : Aside0 (W.heap[w.heap.size]? = some (.cells #[.slice A0 objs.length k0, .slice A1 slots.length k1, .slice A2 handles.length k2, .slice A3 registry.length k3, .slice A4 queue.length k4, .int .u64 next] 44 (0, 0))) := ⟨by rw [hW]; exact heap_alloc_new w _⟩
 have hW' : W = w.alloc (.cells (#[.slice A0 objs.length k0, .slice A1 slots.length k1, .slice A2 handles.length k2, .slice A3 registry.length k3, .slice A4 queue.length k4, .int .u64 next] : Array Value) 44) := hW
 have HW := Aside0.mk hW
 rw [show ([.slice A0 objs.length k0, .slice A1 slots.length k1, .slice A2 handles.length k2, .slice A3 registry.length k3, .slice A4 queue.length k4, .int .u64 next] : List Value).toArray = #[.slice A0 objs.length k0, .slice A1 slots.length k1, .slice A2 handles.length k2, .slice A3 registry.length k3, .slice A4 queue.length k4, .int .u64 next] from rfl, ← hW'] at HC HB
 clear hW hW'
 obtain ⟨c0, c1, c2, c3, c4, c5⟩ := S6.of HK.out
 go_enter Tryz.func10, Tryz.ntmps10
 go_upto_region 1 with (fail)
 rw [← HW.out]
 go_wp2_with (fail)
 refine HC.out.mono ?_
 rintro en w1 ⟨rfl, hb1⟩
 have HB1 := Aside0.mk (below_step HB.out hb1)
 have HK1 := Aside0.mk (blk_below HK.out hb1)
 clear HC hb1 c0 c1 c2 c3 c4 c5 HK HB
 obtain ⟨c0, c1, c2, c3, c4, c5⟩ := S6.of HK1.out
 cases ok with
 | false =>
  go_wp2_with (fail)
  go_ret2
  exact ⟨_, rfl, Kd.R_nil _ _ _ _ _, HB1.out⟩
 | true =>
  obtain ⟨hg, hln⟩ := HG rfl
  clear HG
  have HG := Aside0.mk hg
  obtain ⟨hnx, hnx2⟩ := hg.next
  obtain ⟨BD, hBD⟩ : ∃ BD, body ⟨objs, slots, handles, registry, queue, next⟩ = BD := ⟨_, rfl⟩
  have HY : Aside0 (Bytes BD ∧ BD.length ≤ 1000000000000 ∧ I = BD ++ sb (fnv BD)) := ⟨by rw [← hBD]; exact body_bytes _, by rw [← hBD, body_eq, List.length_append]; simp [head]; omega, by rw [← hBD]; exact HI.out.symm⟩
  go_upto_region 4 with (fail)
  obtain ⟨W2, hW2⟩ : ∃ W2, W2 = w1.alloc (.cells #[.int .u8 77, .int .u8 68, .int .u8 73, .int .u8 49] 5) := ⟨_, rfl⟩
  rw [← hW2]
  have H : Aside0 (WS w BD [(w.heap.size, #[.slice A0 objs.length k0, .slice A1 slots.length k1, .slice A2 handles.length k2, .slice A3 registry.length k3, .slice A4 queue.length k4, .int .u64 next], 44)] (enc next.toNat ++ (enc ((objs.length : Int)).toNat ++ (encOs 0 objs ++ (encL (encL (encL (encI 0))) slots ++ (encL (encI 1) handles ++ (encL (encI 0) queue ++ [])))))) (.slice (some ⟨w1.heap.size, 0, none⟩) 4 4) W2) := ⟨by
   have hbb := below_alloc (Below.refl w1.heap.size w1) (.cells #[.int .u8 77, .int .u8 68, .int .u8 73, .int .u8 49] 5)
   refine ⟨⟨head, ⟨by rw [hW2]; exact below_step HB1.out hbb, ?_⟩, ?_⟩, HY.out.2.1, fun p hp => ?_⟩
   ·rw [hW2]
    exact R_block (k := .u8) (xs := head) (heap_alloc_new w1 _) HB1.out.size (by show 4 ≤ maxLen; decide)
   ·rw [← hBD]; simp [body]
   ·rw [List.mem_singleton.1 hp, hW2]; exact ⟨(by decide : (44 : Nat) ≠ 5), blk_below HK1.out hbb⟩⟩
  have hnn := HN.out
  have hl0 : objs.length ≤ 1000000 := hnn.tame.mild.objs
  have hl1 : slots.length ≤ 1000000 := hnn.tame.mild.slots
  have hl2 : handles.length ≤ 1000000 := hnn.tame.mild.handles
  have hl4 : queue.length ≤ 1000000 := hnn.tame.mild.queue
  clear hW2 hBD hln hg hnn c0 c1 c2 c3 c4 c5 HB1 HK1 HI
  obtain ⟨c0, c1, c2, c3, c4, c5⟩ := H.out.g6 (List.mem_cons_self ..)
  go_wp2_with (fail)
  refine (H.out.num next (by omega)).mono ?_
  rintro en w3 ⟨v3, rfl, h⟩
  have H3 := Aside0.mk h
  clear H h c0 c1 c2 c3 c4 c5
  obtain ⟨c0, c1, c2, c3, c4, c5⟩ := H3.out.g6 (List.mem_cons_self ..)
  go_wp2_with (fail)
  refine (H3.out.num (objs.length : Int) (by omega)).mono ?_
  rintro en w4 ⟨v4, rfl, h⟩
  have H4 := Aside0.mk h
  clear H3 h c0 c1 c2 c3 c4 c5
  have HO : Aside0 (allS (fun _ o => o.f0) okW 0 (objs.drop 0)) := ⟨HG.out.objs⟩
  go_wp2_with (fail)
  go_loopw [4, 5, 6] (fun v a i wr => ∃ (t : Nat) (last : Int), a = .int .u64 last ∧ i = .int .i64 t ∧ t ≤ objs.length ∧ Aside0 (allS (fun _ o => o.f0) okW last (objs.drop t)) ∧ Aside0 (WS w BD [(w.heap.size, #[.slice A0 objs.length k0, .slice A1 slots.length k1, .slice A2 handles.length k2, .slice A3 registry.length k3, .slice A4 queue.length k4, .int .u64 next], 44)] (encOs last (objs.drop t) ++ (encL (encL (encL (encI 0))) slots ++ (encL (encI 1) handles ++ (encL (encI 0) queue ++ [])))) v wr)) (fun _ _ i _ => objs.length - (intOf i).toNat)
  case atStart => exact ⟨0, 0, rfl, rfl, Nat.zero_le _, HO, H4⟩
  case round =>
   clear HO H4
   obtain ⟨t, last, rfl, rfl, ht, HO, H⟩ := hrel
   obtain ⟨c0, c1, c2, c3, c4, c5⟩ := H.out.g6 (List.mem_cons_self ..)
   by_cases hlt : t < objs.length
   ·have p1 : (t : Int) < (objs.length : Int) := by omega
    obtain ⟨ad, A5, k5, A6, k6, rfl, o0, o1, o2, o3, o4, hC3, hC4⟩ := obj_at HR.out.r0 hlt
    have HD : Aside0 (objs.drop t = objs.getD t z66 :: objs.drop (t + 1)) := ⟨drop_get objs t z66 hlt⟩
    rw [HD.out] at HO H
    clear HD
    generalize objs.getD t z66 = o at *
    obtain ⟨f0, f1, f2, f3, f4⟩ := o
    simp only at o0 o1 o2 o3 o4 hC3 hC4
    obtain ⟨⟨⟨a1, a2, a3⟩, ⟨b1, b2⟩, ⟨b3, b4⟩, ⟨b5, b6⟩, b7, b8⟩, ho⟩ := HO.out
    simp only at a1 a2 a3 b1 b2 b3 b4 b5 b6 b7 b8 ho
    have HC3 := Aside0.mk hC3
    have HC4 := Aside0.mk hC4
    have HO2 := Aside0.mk ho
    have HX3 := Aside0.mk b6
    have HX4 := Aside0.mk b8
    replace o0 := pw_cell_below H.out.bel o0
    replace o1 := pw_cell_below H.out.bel o1
    replace o2 := pw_cell_below H.out.bel o2
    replace o3 := pw_cell_below H.out.bel o3
    replace o4 := pw_cell_below H.out.bel o4
    have hsb : IntKind.u64.wrap (f0 - last) = f0 - last := wrapu (by omega)
    have H2 := Aside0.mk (H.out.alloc #[.int .u64 f0, .int .i64 f1, .int .i64 f2, .slice A5 f3.length k5, .slice A6 f4.length k6] 66 (by decide))
    simp only [encOs, encO, List.append_assoc] at H2
    clear hC3 hC4 ho HO b6 b8 H
    go_wp2_with (fail)
    refine (H2.out.num (f0 - last) (by omega)).mono ?_
    rintro en x1 ⟨u1, rfl, h⟩
    have H3 := Aside0.mk h
    clear H2 h o0 o1 o2 o3 o4 c0 c1 c2 c3 c4 c5 hsb
    obtain ⟨o0, o1, o2, o3, o4⟩ := H3.out.g5 (List.mem_cons_self ..)
    have hs1 : IntKind.u64.wrap f1 = f1 := wrapu (by omega)
    have hs2 : IntKind.u64.wrap f2 = f2 := wrapu (by omega)
    go_wp2_with (fail)
    refine (WS.num f1 (by have h := H3.out; rw [encI, Int.add_zero] at h; exact h) (by omega)).mono ?_
    rintro en x2 ⟨u2, rfl, h⟩
    have H4 := Aside0.mk h
    clear H3 h o0 o1 o2 o3 o4
    obtain ⟨o0, o1, o2, o3, o4⟩ := H4.out.g5 (List.mem_cons_self ..)
    go_wp2_with (fail)
    refine (WS.num f2 (by have h := H4.out; rw [encI, Int.add_zero] at h; exact h) (by omega)).mono ?_
    rintro en x3 ⟨u3, rfl, h⟩
    have H5 := Aside0.mk h
    clear H4 h o0 o1 o2 o3 o4
    obtain ⟨o0, o1, o2, o3, o4⟩ := H5.out.g5 (List.mem_cons_self ..)
    go_wp2_with (fail)
    refine (H5.out.ints A5 k5 f3 0 (by omega) (by omega) HX3.out HC3.out).mono ?_
    rintro en x4 ⟨u4, rfl, h⟩
    rw [encL, List.append_assoc] at h
    have H6 := Aside0.mk h
    clear H5 h o0 o1 o2 o3 o4
    obtain ⟨o0, o1, o2, o3, o4⟩ := H6.out.g5 (List.mem_cons_self ..)
    go_wp2_with (fail)
    refine (WS.num (f4.length : Int) H6.out (by omega)).mono ?_
    rintro en x5 ⟨u5, rfl, h⟩
    have H7 := Aside0.mk h
    clear H6 h o0 o1 o2 o3 o4
    go_wp2_with (fail)
    have H8 : Aside0 (WS w BD [(wr.heap.size, #[.int .u64 f0, .int .i64 f1, .int .i64 f2, .slice A5 f3.length k5, .slice A6 f4.length k6], 66), (w.heap.size, #[.slice (some ad) objs.length k0, .slice A1 slots.length k1, .slice A2 handles.length k2, .slice A3 registry.length k3, .slice A4 queue.length k4, .int .u64 next], 44)] ((f4.drop 0).flatMap (encI 0) ++ (encOs f0 (objs.drop (t + 1)) ++ (encL (encL (encL (encI 0))) slots ++ (encL (encI 1) handles ++ (encL (encI 0) queue ++ []))))) u5 x5) := H7
    clear H7
    go_loopw [4, 8] (fun v i x => ∃ q : Nat, i = .int .i64 q ∧ q ≤ f4.length ∧ Aside0 (WS w BD [(wr.heap.size, #[.int .u64 f0, .int .i64 f1, .int .i64 f2, .slice A5 f3.length k5, .slice A6 f4.length k6], 66), (w.heap.size, #[.slice (some ad) objs.length k0, .slice A1 slots.length k1, .slice A2 handles.length k2, .slice A3 registry.length k3, .slice A4 queue.length k4, .int .u64 next], 44)] ((f4.drop q).flatMap (encI 0) ++ (encOs f0 (objs.drop (t + 1)) ++ (encL (encL (encL (encI 0))) slots ++ (encL (encI 1) handles ++ (encL (encI 0) queue ++ []))))) v x)) (fun _ i _ => f4.length - (intOf i).toNat)
    case atStart => exact ⟨0, rfl, Nat.zero_le _, H8⟩
    case round =>
     clear H8
     obtain ⟨q, rfl, hq, H⟩ := hrel
     obtain ⟨o0, o1, o2, o3, o4⟩ := H.out.g5 (List.mem_cons_self ..)
     by_cases hlq : q < f4.length
     ·have p2 : (q : Int) < (f4.length : Int) := by omega
      obtain ⟨ad2, rfl, hz⟩ := num_at HC4.out hlq
      replace hz := pw_cell_below H.out.bel hz
      have hz2 := HX4.out _ (get_mem (d := 0) hlq)
      rw [flat_drop (encI 0) f4 q 0 hlq, List.append_assoc] at H
      generalize f4.getD q 0 = z at *
      go_wp2_with (fail)
      refine (WS.num z (by have h := H.out; rw [encI, Int.add_zero] at h; exact h) hz2).mono ?_
      rintro en x6 ⟨u6, rfl, h⟩
      have H2 := Aside0.mk h
      clear H h hz o0 o1 o2 o3 o4
      go_wp2_with (fail)
      go_roundw
      case rel => exact ⟨q + 1, by go_num, by omega, H2⟩
      case measure => simp [intOf]; omega
     ·have p2 : ¬ (q : Int) < (f4.length : Int) := by omega
      have H2 := Aside0.mk H.out.tail
      rw [List.drop_eq_nil_of_le (by omega), List.flatMap_nil, List.nil_append] at H2
      clear H
      go_wp2_with (fail)
      go_roundw
      case rel => exact ⟨t + 1, f0, rfl, by go_num, by omega, HO2, H2⟩
      case measure => simp [intOf]; omega
   ·have p1 : ¬ (t : Int) < (objs.length : Int) := by omega
    rw [List.drop_eq_nil_of_le (by omega), encOs, List.nil_append, encL, List.append_assoc] at H
    clear HO
    go_wp2_with (fail)
    refine (WS.num (slots.length : Int) H.out (by omega)).mono ?_
    rintro en x1 ⟨u1, rfl, h⟩
    have H2 : Aside0 (WS w BD [(w.heap.size, #[.slice A0 objs.length k0, .slice A1 slots.length k1, .slice A2 handles.length k2, .slice A3 registry.length k3, .slice A4 queue.length k4, .int .u64 next], 44)] ((slots.drop 0).flatMap (encL (encL (encI 0))) ++ (encL (encI 1) handles ++ (encL (encI 0) queue ++ []))) u1 x1) := ⟨h⟩
    clear H h c0 c1 c2 c3 c4 c5
    go_wp2_with (fail)
    go_loopw [4, 9] (fun v i x => ∃ q : Nat, i = .int .i64 q ∧ q ≤ slots.length ∧ Aside0 (WS w BD [(w.heap.size, #[.slice A0 objs.length k0, .slice A1 slots.length k1, .slice A2 handles.length k2, .slice A3 registry.length k3, .slice A4 queue.length k4, .int .u64 next], 44)] ((slots.drop q).flatMap (encL (encL (encI 0))) ++ (encL (encI 1) handles ++ (encL (encI 0) queue ++ []))) v x)) (fun _ i _ => slots.length - (intOf i).toNat)
    case atStart => exact ⟨0, rfl, Nat.zero_le _, H2⟩
    case round =>
     clear H2
     obtain ⟨q, rfl, hq, H⟩ := hrel
     obtain ⟨c0, c1, c2, c3, c4, c5⟩ := H.out.g6 (List.mem_cons_self ..)
     by_cases hlq : q < slots.length
     ·have p2 : (q : Int) < (slots.length : Int) := by omega
      obtain ⟨ad, A5, k5, rfl, h5, hl5, hC5⟩ := at_L5 HR.out.r1 (q : Int) (by omega) (by show (q : Int) < (slots.length : Int); omega)
      have hrd : rd_L5 slots (q : Int) = slots.getD q [] := by simp [rd_L5]
      rw [hrd] at h5 hl5 hC5
      have HG2 := Aside0.mk (HG.out.slots.2 _ (get_mem (d := []) hlq))
      rw [flat_drop (encL (encL (encI 0))) slots q [] hlq, List.append_assoc] at H
      clear hrd
      generalize slots.getD q [] = fr at *
      have hlf : fr.length ≤ 4096 := HG2.out.1
      have HC5 := Aside0.mk hC5
      have h5' : wr.cell? (ad.add q) = some (.slice A5 fr.length k5) := by have := pw_cell_below H.out.bel h5; simpa using this
      rw [encL, List.append_assoc] at H
      clear hC5 hl5
      go_wp2_with (fail)
      refine (WS.num (fr.length : Int) H.out (by omega)).mono ?_
      rintro en x2 ⟨u2, rfl, h⟩
      have H3 : Aside0 (WS w BD [(w.heap.size, #[.slice A0 objs.length k0, .slice (some ad) slots.length k1, .slice A2 handles.length k2, .slice A3 registry.length k3, .slice A4 queue.length k4, .int .u64 next], 44)] ((fr.drop 0).flatMap (encL (encI 0)) ++ ((slots.drop (q + 1)).flatMap (encL (encL (encI 0))) ++ (encL (encI 1) handles ++ (encL (encI 0) queue ++ [])))) u2 x2) := ⟨h⟩
      have H5 := Aside0.mk (show w.cell? (ad.add q) = _ from h5)
      clear H h h5' h5 c0 c1 c2 c3 c4 c5
      go_wp2_with (fail)
      go_loopw [4, 10] (fun v i x => ∃ j : Nat, i = .int .i64 j ∧ j ≤ fr.length ∧ Aside0 (WS w BD [(w.heap.size, #[.slice A0 objs.length k0, .slice (some ad) slots.length k1, .slice A2 handles.length k2, .slice A3 registry.length k3, .slice A4 queue.length k4, .int .u64 next], 44)] ((fr.drop j).flatMap (encL (encI 0)) ++ ((slots.drop (q + 1)).flatMap (encL (encL (encI 0))) ++ (encL (encI 1) handles ++ (encL (encI 0) queue ++ [])))) v x)) (fun _ i _ => fr.length - (intOf i).toNat)
      case atStart => exact ⟨0, rfl, Nat.zero_le _, H3⟩
      case round =>
       clear H3
       obtain ⟨j, rfl, hj, H⟩ := hrel
       obtain ⟨c0, c1, c2, c3, c4, c5⟩ := H.out.g6 (List.mem_cons_self ..)
       have h5' : wr.cell? (ad.add q) = some (.slice A5 fr.length k5) := by have := pw_cell_below H.out.bel H5.out; simpa using this
       by_cases hlj : j < fr.length
       ·have p3 : (j : Int) < (fr.length : Int) := by omega
        obtain ⟨ad2, A6, k6, rfl, h6, hl6, hC6⟩ := at_L2 HC5.out (j : Int) (by omega) (by show (j : Int) < (fr.length : Int); omega)
        have hrd : rd_L2 fr (j : Int) = fr.getD j [] := by simp [rd_L2]
        rw [hrd] at h6 hl6 hC6
        have HG3 := Aside0.mk (HG2.out.2 _ (get_mem (d := []) hlj))
        rw [flat_drop (encL (encI 0)) fr j [] hlj, List.append_assoc] at H
        clear hrd
        generalize fr.getD j [] = f at *
        have h6' : wr.cell? (ad2.add j) = some (.slice A6 f.length k6) := by have := pw_cell_below H.out.bel h6; simpa using this
        have HC6 := Aside0.mk hC6
        clear h6 hC6 hl6
        go_wp2_with (fail)
        refine (WS.ints A6 k6 f 0 H.out (by omega) (by have := HG3.out.1; omega) (fun z hz => by have := HG3.out.2 z hz; omega) HC6.out).mono ?_
        rintro en x3 ⟨u3, rfl, h⟩
        have H2 := Aside0.mk h
        clear H h h5' h6' c0 c1 c2 c3 c4 c5
        go_wp2_with (fail)
        go_roundw
        case rel => exact ⟨j + 1, by go_num, by omega, H2⟩
        case measure => simp [intOf]; omega
       ·have p3 : ¬ (j : Int) < (fr.length : Int) := by omega
        rw [List.drop_eq_nil_of_le (by omega), List.flatMap_nil, List.nil_append] at H
        go_wp2_with (fail)
        go_roundw
        case rel => exact ⟨q + 1, by go_num, by omega, H⟩
        case measure => simp [intOf]; omega
     ·have p2 : ¬ (q : Int) < (slots.length : Int) := by omega
      rw [List.drop_eq_nil_of_le (by omega), List.flatMap_nil, List.nil_append] at H
      go_wp2_with (fail)
      refine (WS.ints A2 k2 handles 1 H.out (by omega) (by omega) (fun z hz => by have := HG.out.handles.2 z hz; omega) HR.out.r2).mono ?_
      rintro en x2 ⟨u2, rfl, h⟩
      have H2 := Aside0.mk h
      clear H h c0 c1 c2 c3 c4 c5
      obtain ⟨c0, c1, c2, c3, c4, c5⟩ := H2.out.g6 (List.mem_cons_self ..)
      go_wp2_with (fail)
      refine (WS.ints A4 k4 queue 0 H2.out (by omega) (by omega) (fun z hz => by have := HG.out.queue z hz; omega) HR.out.r4).mono ?_
      rintro en x3 ⟨u3, rfl, h⟩
      obtain ⟨us, hb, he⟩ := h.ex
      rw [List.append_nil] at he
      subst he
      obtain ⟨Ab, cb, rfl⟩ := Kd.R_slice hb.row
      obtain ⟨A', c', e', hcl, hcc⟩ := Kd.R_reads hb.row
      injection e' with e1 e2 e3
      subst e1 e3
      have HS := Aside0.mk (bsum Ab cb us HY.out.1 HY.out.2.1 x3 hcc)
      have H3 := Aside0.mk hb
      clear H2 h hb hcc hcl e2 c0 c1 c2 c3 c4 c5
      go_wp2_with (fail)
      refine HS.out.mono ?_
      rintro en x4 ⟨rfl, hd⟩
      have H4 := Aside0.mk (H3.out.after hd)
      obtain ⟨N, hN⟩ : ∃ N, fnv us = N := ⟨_, rfl⟩
      have HN := Aside0.mk hN
      clear HS H3 hd
      rw [hN]
      have HE : Aside0 (us ++ tl (4 - 0) N = I) := ⟨by rw [HY.out.2.2, hN, ← sb_tl]⟩
      have hN4 : N < 4294967296 := by rw [← hN]; exact fnv_lt _
      have hul : us.length ≤ 1000000000000 := HY.out.2.1
      clear hN HY HN
      go_wp2_with (fail)
      go_loopw [4, 11, 12] (fun v a i x => ∃ (k s : Nat) (xs : List Int), a = .int .u32 s ∧ i = .int .i64 k ∧ k ≤ 4 ∧ s < 4294967296 ∧ Aside0 (xs.length = us.length + k) ∧ Aside0 (xs ++ tl (4 - k) s = I) ∧ Aside0 (Bw w v xs x)) (fun _ _ i _ => 4 - (intOf i).toNat)
      case atStart => exact ⟨0, N, us, rfl, rfl, by omega, hN4, ⟨rfl⟩, HE, H4⟩
      case round =>
       clear HE H4
       obtain ⟨k, s, xs, rfl, rfl, hk, hs, HXL, HE, H⟩ := hrel
       by_cases hlk : k < 4
       ·have p3 : (k : Int) < 4 := by omega
        obtain ⟨Ax, cx, rfl⟩ := Kd.R_slice H.out.row
        have hxl : xs.length ≤ 1000000000011 := by have := HXL.out; omega
        have HE2 : Aside0 ((xs ++ [(s : Int) % 256]) ++ tl (4 - (k + 1)) (s / 256) = I) := ⟨by have h := HE.out; rw [show 4 - k = (4 - (k + 1)) + 1 by omega] at h; simpa [tl] using h⟩
        have HXL2 : Aside0 ((xs ++ [(s : Int) % 256]).length = us.length + (k + 1)) := ⟨by rw [List.length_append, HXL.out]; rfl⟩
        clear HE HXL
        go_wp2_with (refine Bw.append rfl (.tmp 137) (.tmp 141) rfl Tryz.underlying40 info5 (.slice Ax xs.length cx) xs ((s : Int) % 256) rfl (by first | (go_simp; done) | (go_simp; rfl)) H.out hxl ?_; intro v1 w3 hv hp; have HV := Aside0.mk hv; clear hv hp)
        go_roundw
        case rel => exact ⟨k + 1, s / 256, _, by go_num, by go_num, by omega, by omega, HXL2, HE2, HV⟩
        case measure => simp [intOf]; omega
       ·have p3 : ¬ (k : Int) < 4 := by omega
        have HE2 : Aside0 (xs = I) := ⟨by have h := HE.out; rw [show 4 - k = 0 by omega] at h; simpa [tl] using h⟩
        go_wp2_with (fail)
        go_ret2
        obtain ⟨rfl⟩ := HE2
        exact ⟨_, rfl, H.out.row, H.out.bel⟩
end Go.Proofs.YtihjjkoddphmiaaGreatDoor.img
