/-
  The walk of middenref16.Check.
-/
import Derived.Test.YtihjjkoddphmiaaGreatDoorNRefKn
import Derived.Test.YtihjjkoddphmiaaGreatDoorNRefFi
import Derived.Test.YtihjjkoddphmiaaGreatDoorNRefSlots
import Derived.Test.YtihjjkoddphmiaaGreatDoorNSmG
import Derived.Test.YtihjjkoddphmiaaGreatDoorNRefOb
namespace Go.Proofs.YtihjjkoddphmiaaGreatDoor.img
open Go.RowKit Go.Proofs.YtihjjkoddphmiaaGreatDoorW.PrintWords Go.Proofs.YtihjjkoddphmiaaGreatDoorW.PrintLast Go.Proofs.YtihjjkoddphmiaaGreatDoorW.PrintMore Go.Proofs.YtihjjkoddphmiaaGreatDoor.PImageApart
set_option linter.unusedVariables false
set_option linter.unusedSimpArgs false

/-- The marks. -/
structure KM (w0 : World) (go co n : Nat) (m : List Bool) (w : World) : Prop where
 row : Kd.bool.R 4 w w0.heap.size (fun _ => True) (.slice (some ⟨go, 0, none⟩) (n + 1) co) m
section
variable {w0 w : World} {C : Array Value} {v : Value} {T : List Int} {go co n : Nat} {m : List Bool}
theorem KM.blk (h : KM w0 go co n m w) : w0.heap.size ≤ go ∧ ∃ cells, w.heap[go]? = some (.cells cells 4 (0, 0)) := by
 obtain ⟨A, c, e, -, -⟩ := Kd.R_reads h.row
 injection e with _ e2 _
 obtain ⟨g', cap, e, h1, -, h2⟩ := Kd.R_form h.row (by omega)
 injection e with e _ _
 injection e with e
 injection e with e
 subst e
 exact ⟨h1, h2⟩
theorem KS.append {P : Program} {ops : Array Oper} {rest : List Oper} {o : Oper} {a : Act} {Q : Exit → Act → World → Prop} (hgd : o.guard = none) (s x : Operand)
  (ho : o.op = .call { callee := .builtin .append, args := #[s, x], argTypes := #[25, 25] })
  (ht : P.underlying 25 = some (.slice 3)) (hinfo : (P.info? 3).map (fun i => (i.zero, i.size, i.bytes)) = some (some (.int .i64 0), 1, 8))
  (ys : List Int) (A : Option Addr) (c : Nat) (hs : a.eval s = v) (hx : a.eval x = .slice A ys.length c)
  (H : KS w0 C v T w) (HC : (Kd.int .i64).C w0 A ys.length ys) (hl : T.length + ys.length ≤ 10000000000000)
  (h : ∀ v1 w1, KS w0 C v1 (T ++ ys) w1 → (∀ go co n m, KM w0 go co n m w → KM w0 go co n m w1) → wpList P ops Q rest (a.put o.dst v1) w1) :
  wpList P ops Q (o :: rest) a w :=
 Kd.R_append_row (w0 := w0) (Value.int .i64) 0 (h1 := fun _ => rfl) w0.heap.size hgd s x 25 3 (.int .i64 0) 8 ho ht hinfo rfl (by decide) v T ys A ys.length c (fun _ => True) hs hx (fun _ _ => trivial) H.row (Kd.C_below HC H.bel) H.bel H.bel.size (by omega)
  (fun v1 w1 h1 h2 h3 _ => h v1 w1 ⟨h2, h1, blk_grown H.blk h3 (Kd.R_ne H.row H.blk (by decide))⟩ (fun go co n m hm => ⟨by
   obtain ⟨-, cs, hc⟩ := hm.blk
   exact Kd.R_grown2 hm.row rfl h3 (fun k hk e => Kd.R_ne H.row hc (by decide) (by rw [hk]; exact e.symm))⟩))
theorem KS.grown {w1 : World} (h : KS w0 C v T w) (hg : w.grownBy w1 none) (hb : Below w0.heap.size w0 w1) : KS w0 C v T w1 := ⟨hb, Kd.R_grown2 h.row rfl hg (fun k hk => by cases hk), blk_grown h.blk hg (by simp)⟩
theorem KS.mark (h : KS w0 C v T w) (hm : KM w0 go co n m w) (x : Nat) : KS w0 C v T (w.setCell ⟨go, x, none⟩ (.bool true)) ∧ KM w0 go co n (m.set x true) (w.setCell ⟨go, x, none⟩ (.bool true)) := by
 obtain ⟨h1, cs, hc⟩ := hm.blk
 refine ⟨⟨below_set h.bel h1, Kd.R_set h.row hc (by decide) _ _, blk_far h.blk (blk_ne h.blk hc (by decide)) _⟩, ⟨?_⟩⟩
 exact Kd.R_putn hm.row (x : Int) true
end
set_option maxHeartbeats 8000000 in
set_option maxRecDepth 100000 in
theorem known_hand (L : Lay) (g : Gr) (hm : Mild g) (hp : Pts g) (hr : (rootL g).length ≤ 1000000000) (w : World) (hR : Rd w L g) :
  Calls Tryz.prog 56 #[.agg (gcells L g).toArray] w fun e w' => e = .returned (.bool (knownB g)) ∧ Below w.heap.size w w' := by
 obtain ⟨k, hk⟩ := (known_ready hp hm.objs hr).rounds
 have hrl : (rootL g).length = ((g.slots.flatten.flatten.length + g.handles.length) + g.queue.length) + g.registry.length := by simp only [rootL, List.length_append]
 obtain ⟨L0, hL0⟩ : ∃ L0, rootL g = L0 := ⟨_, rfl⟩
 obtain ⟨r, hr0⟩ : ∃ r, knownB g = r := ⟨_, rfl⟩
 rw [hr0, hL0] at hk
 rw [hr0]
 have HP := Aside0.mk hp
 have HM := Aside0.mk hm
 obtain ⟨A0, A1, A2, A3, A4, k0, k1, k2, k3, k4⟩ := L
 obtain ⟨objs, slots, handles, registry, queue, next⟩ := g
 have HR := Aside0.mk hR
 have HKN : Aside0 (kn ⟨objs, slots, handles, registry, queue, next⟩ k L0 (List.replicate (objs.length + 1) false, []) 0 = some r) := ⟨hk⟩
 have HL0 : Aside0 (((slots.flatten.flatten ++ handles) ++ queue) ++ registry = L0) := ⟨hL0⟩
 have hl0 : objs.length ≤ 1000000 := hm.objs
 have hl1 : slots.length ≤ 1000000 := hm.slots
 obtain ⟨F, hF⟩ : ∃ F, slots.flatten.flatten = F := ⟨_, rfl⟩
 have HF := Aside0.mk hF
 have hb0 : F.length + handles.length + queue.length + registry.length ≤ 1000000000 := by rw [← hF]; simp only at hrl; omega
 rw [hF] at HL0
 obtain ⟨W, hW⟩ : ∃ W, W = w.alloc (.cells #[.slice A0 objs.length k0, .slice A1 slots.length k1, .slice A2 handles.length k2, .slice A3 registry.length k3, .slice A4 queue.length k4, .int .u64 next] 44) := ⟨_, rfl⟩
 have HW := Aside0.mk hW
 have H : Aside0 (KS w #[.slice A0 objs.length k0, .slice A1 slots.length k1, .slice A2 handles.length k2, .slice A3 registry.length k3, .slice A4 queue.length k4, .int .u64 next] (.slice none 0 0) [] W) := ⟨⟨by rw [hW]; exact below_alloc (Below.refl _ _) _, Kd.R_nil _ _ _ _ _, by rw [hW]; exact heap_alloc_new w _⟩⟩
 clear hR hm hp hr hrl hr0 hL0 hk hF hW
 obtain ⟨c0, c1, c2, c3, c4, c5⟩ := S6.of H.out.blk
 go_enter Tryz.func56, Tryz.ntmps56
 go_upto_region 1 with (fail)
 rw [← HW.out]
 go_wp2_with (fail)
 go_loopw [3, 4] (fun v i wr => ∃ (t : Nat) (T : List Int), i = .int .i64 t ∧ t ≤ slots.length ∧ Aside0 (T ++ (slots.drop t).flatten.flatten = F) ∧ Aside0 (KS w #[.slice A0 objs.length k0, .slice A1 slots.length k1, .slice A2 handles.length k2, .slice A3 registry.length k3, .slice A4 queue.length k4, .int .u64 next] v T wr)) (fun _ i _ => slots.length - (intOf i).toNat)
 case atStart => exact ⟨0, [], rfl, Nat.zero_le _, HF, H⟩
 case round =>
  clear H HF c0 c1 c2 c3 c4 c5
  obtain ⟨t, T, rfl, ht, HF, H⟩ := hrel
  obtain ⟨c0, c1, c2, c3, c4, c5⟩ := S6.of H.out.blk
  by_cases hlt : t < slots.length
  ·have p1 : (t : Int) < (slots.length : Int) := by omega
   obtain ⟨ad1, A5, k5, rfl, h5, hl5, hC5⟩ := at_L5 HR.out.r1 (t : Int) (by omega) (by show (t : Int) < (slots.length : Int); omega)
   have hrd : rd_L5 slots (t : Int) = slots.getD t [] := by simp [rd_L5]
   rw [hrd] at h5 hl5 hC5
   rw [drop_get slots t [] hlt, List.flatten_cons, List.flatten_append] at HF
   clear hrd
   have hlf : (slots.getD t []).length ≤ 1000000 := HM.out.frames _ (get_mem hlt)
   generalize slots.getD t [] = fr at *
   have HC5 := Aside0.mk hC5
   have H5 := Aside0.mk (show w.cell? (ad1.add t) = some (.slice A5 fr.length k5) by simpa using h5)
   have HF2 : Aside0 (T ++ ((fr.drop 0).flatten ++ (slots.drop (t + 1)).flatten.flatten) = F) := HF
   clear h5 hC5 hl5 HF
   go_wp2_with (fail)
   go_loopw [3, 5] (fun v i wr => ∃ (j : Nat) (T : List Int), i = .int .i64 j ∧ j ≤ fr.length ∧ Aside0 (T ++ ((fr.drop j).flatten ++ (slots.drop (t + 1)).flatten.flatten) = F) ∧ Aside0 (KS w #[.slice A0 objs.length k0, .slice (some ad1) slots.length k1, .slice A2 handles.length k2, .slice A3 registry.length k3, .slice A4 queue.length k4, .int .u64 next] v T wr)) (fun _ i _ => fr.length - (intOf i).toNat)
   case atStart => exact ⟨0, T, rfl, Nat.zero_le _, HF2, H⟩
   case round =>
    clear H HF2 c0 c1 c2 c3 c4 c5
    obtain ⟨j, T, rfl, hj, HF, H⟩ := hrel
    obtain ⟨c0, c1, c2, c3, c4, c5⟩ := S6.of H.out.blk
    have h5' : wr.cell? (ad1.add t) = some (.slice A5 fr.length k5) := pw_cell_below H.out.bel H5.out
    by_cases hlj : j < fr.length
    ·have p2 : (j : Int) < (fr.length : Int) := by omega
     obtain ⟨ad2, A6, k6, rfl, h6, hl6, hC6⟩ := at_L2 HC5.out (j : Int) (by omega) (by show (j : Int) < (fr.length : Int); omega)
     have hrd : rd_L2 fr (j : Int) = fr.getD j [] := by simp [rd_L2]
     rw [hrd] at h6 hl6 hC6
     rw [drop_get fr j [] hlj, List.flatten_cons, List.append_assoc, ← List.append_assoc] at HF
     clear hrd
     generalize fr.getD j [] = f at *
     have hTl : T.length + f.length ≤ 10000000000000 := by
      have e := congrArg List.length HF.out
      simp only [List.length_append] at e
      omega
     have h6' : wr.cell? (ad2.add j) = some (.slice A6 f.length k6) := by have := pw_cell_below H.out.bel h6; simpa using this
     obtain ⟨Av, cv, rfl⟩ := Kd.R_slice H.out.row
     clear h6 hl6
     go_wp2_with (refine KS.append rfl (.tmp 27) (.tmp 35) rfl Tryz.underlying25 kinfo3 f A6 k6 rfl (by first | (go_simp; done) | (go_simp; rfl)) H.out hC6 hTl ?_; intro v1 w3 h hk; have H2 := Aside0.mk h; clear h hk)
     go_roundw
     case rel => exact ⟨j + 1, _, by go_num, by omega, HF, H2⟩
     case measure => simp [intOf]; omega
    ·have p2 : ¬ (j : Int) < (fr.length : Int) := by omega
     rw [List.drop_eq_nil_of_le (by omega), List.flatten_nil, List.nil_append] at HF
     go_wp2_with (fail)
     go_roundw
     case rel => exact ⟨t + 1, T, by go_num, by omega, HF, H⟩
     case measure => simp [intOf]; omega
  ·have p1 : ¬ (t : Int) < (slots.length : Int) := by omega
   obtain ⟨rfl⟩ : Aside0 (T = F) := ⟨by have := HF.out; rw [List.drop_eq_nil_of_le (by omega)] at this; simpa using this⟩
   obtain ⟨Av, cv, rfl⟩ := Kd.R_slice H.out.row
   go_upto_region 10 with (refine KS.append rfl (.tmp 37) (.tmp 39) rfl Tryz.underlying25 kinfo3 handles A2 k2 rfl (by first | (go_simp; done) | (go_simp; rfl)) H.out HR.out.r2 (by omega) ?_; intro v1 w1 h hk; have H1 := Aside0.mk h; clear h hk)
   clear c0 c1 c2 c3 c4 c5
   obtain ⟨c0, c1, c2, c3, c4, c5⟩ := S6.of H1.out.blk
   obtain ⟨Av1, cv1, rfl⟩ := Kd.R_slice H1.out.row
   go_upto_region 11 with (refine KS.append rfl (.tmp 41) (.tmp 43) rfl Tryz.underlying25 kinfo3 queue A4 k4 rfl (by first | (go_simp; done) | (go_simp; rfl)) H1.out HR.out.r4 (by rw [List.length_append]; omega) ?_; intro v1 w2 h hk; have H2 := Aside0.mk h; clear h hk)
   clear c0 c1 c2 c3 c4 c5
   obtain ⟨c0, c1, c2, c3, c4, c5⟩ := S6.of H2.out.blk
   obtain ⟨Av2, cv2, rfl⟩ := Kd.R_slice H2.out.row
   go_upto_region 12 with (refine KS.append rfl (.tmp 45) (.tmp 47) rfl Tryz.underlying25 kinfo3 registry A3 k3 rfl (by first | (go_simp; done) | (go_simp; rfl)) H2.out HR.out.r3 (by simp only [List.length_append]; omega) ?_; intro v1 w3 h hk; have H3 := Aside0.mk h; clear h hk)
   clear c0 c1 c2 c3 c4 c5 H H1 H2
   rw [HL0.out] at H3
   obtain ⟨c0, c1, c2, c3, c4, c5⟩ := S6.of H3.out.blk
   have hn0 : ((objs.length : Int) + 1).toNat = objs.length + 1 := by omega
   go_wp2_with (first | ((with_reducible refine gate_dst (N := 53) rfl ?_); refine Kd.R_make (w0 := w) Kd.bool w.heap.size 4 rfl (N := 53) rfl 125 _ _ rfl ((objs.length : Int) + 1) rfl rfl Tryz.underlying125 (.bool false) 1 info4 rfl (by decide) (by omega) false (ok := fun _ => True) (okp := fun _ => True) rfl (fun _ hk => hk) trivial (by omega) (by omega) H3.out.bel H3.out.bel.size ?_; intro v1 w4 ho hb hg hnew; rw [hn0] at ho; have HO := Aside0.mk ho; have H4 := Aside0.mk (H3.out.grown hg hb); clear ho hb hg hnew))
   obtain ⟨go, co, rfl, gbo, -, -⟩ := Kd.R_form HO.out (by simp)
   have H5 : Aside0 (KM w go co objs.length (List.replicate (objs.length + 1) false) w4) := ⟨⟨by have := HO.out; rwa [List.length_replicate] at this⟩⟩
   rw [List.length_replicate]
   clear H3 HO gbo c0 c1 c2 c3 c4 c5
   go_loopg [3, 7, 8] k (fun kq v a i wr => ∃ (T : List Int) (s : Seen) (t : Nat), a = .int .i64 s.2.length ∧ i = .int .i64 t ∧ Aside0 (kn ⟨objs, slots, handles, registry, queue, next⟩ kq T s t = some r) ∧ Aside0 (KS w #[.slice A0 objs.length k0, .slice A1 slots.length k1, .slice A2 handles.length k2, .slice A3 registry.length k3, .slice A4 queue.length k4, .int .u64 next] v T wr) ∧ Aside0 (KM w go co objs.length s.1 wr))
   case atStart => exact ⟨L0, (List.replicate (objs.length + 1) false, []), 0, rfl, rfl, HKN, H4, H5⟩
   case round =>
    clear HKN H4 H5
    obtain ⟨T, s, t, rfl, rfl, HKN, H, HMK⟩ := hrel
    cases gk with
    | zero => exact absurd HKN.out (by simp [kn])
    | succ k1 =>
     obtain ⟨c0, c1, c2, c3, c4, c5⟩ := S6.of H.out.blk
     obtain ⟨Av, cv, hve, -, hC⟩ := Kd.R_reads H.out.row
     subst hve
     rw [kn] at HKN
     by_cases hlt : t < T.length
     ·have p1 : (t : Int) < (T.length : Int) := by omega
      rw [if_pos hlt] at HKN
      by_cases hgd : T.getD t 0 ≤ (objs.length : Int) ∧ s.1.length = objs.length + 1 ∧ s.2.length ≤ 2000000 ∧ T.length ≤ 2000000000000
      case neg => exact absurd HKN.out (by rw [if_neg hgd]; simp)
      rw [if_pos hgd] at HKN
      obtain ⟨hx, hsl, hs2, hTl⟩ := hgd
      obtain ⟨ad, rfl, h1⟩ := num_at hC hlt
      generalize T.getD t 0 = x at *
      by_cases h0 : 0 < x
      case neg =>
       rw [if_neg (fun e => h0 e.1)] at HKN
       go_wp2_with (fail)
       go_roundg k1
       case measure => exact Nat.lt_succ_self _
       case rel => exact ⟨T, s, t + 1, rfl, by go_num, HKN, H, HMK⟩
      obtain ⟨y, rfl⟩ : ∃ y : Nat, x = (y : Int) + 1 := ⟨(x - 1).toNat, by omega⟩
      have e1 : ((y : Int) + 1).toNat = y + 1 := by omega
      obtain ⟨hx0, hf0⟩ := Kd.R_celln false HMK.out.row ((y : Int) + 1) (by omega) (by omega)
      rw [e1] at hx0 hf0 HKN
      rw [show rdOf false s.1 ((y : Int) + 1) = s.1.getD (y + 1) false by show s.1.getD ((y : Int) + 1).toNat false = _; rw [e1]] at hx0
      have p2 : (y : Int) + 1 < (objs.length : Int) + 1 := by omega
      have p3 : (0 : Int) ≤ (y : Int) + 1 := by omega
      obtain ⟨b, hb⟩ : ∃ b, s.1.getD (y + 1) false = b := ⟨_, rfl⟩
      rw [hb] at hx0 HKN
      clear hb
      cases b with
      | true =>
       rw [if_neg (fun e => by cases e.2)] at HKN
       go_wp2_with (fail)
       go_roundg k1
       case measure => exact Nat.lt_succ_self _
       case rel => exact ⟨T, s, t + 1, rfl, by go_num, HKN, H, HMK⟩
      | false =>
       rw [if_pos ⟨h0, rfl⟩] at HKN
       have hyl : y < objs.length := by omega
       obtain ⟨ao, A8, c8, A9, c9, rfl, -, -, -, o3, -, hC3, -⟩ := obj_at HR.out.r0 hyl
       have hfl : (objs.getD y z66).f3.length ≤ 1000000 := (HP.out.objs _ (get_mem hyl)).1
       rw [show ptrs ⟨objs, slots, handles, registry, queue, next⟩ ((y : Int) + 1) = (objs.getD y z66).f3 by show (objs.getD ((y : Int) + 1 - 1).toNat z66).f3 = _; rw [show ((y : Int) + 1 - 1).toNat = y by omega]] at HKN
       generalize (objs.getD y z66).f3 = ps at *
       have HQ := H.out.mark HMK.out (y + 1)
       go_upto_region 20 with (fail)
       generalize wr.setCell ⟨go, y + 1, none⟩ (.bool true) = W5 at *
       have H2 := Aside0.mk HQ.1
       have HM2 := Aside0.mk HQ.2
       clear HQ H HMK hx0 hf0 c0 c1 c2 c3 c4 c5 h1 hC
       obtain ⟨c0, c1, c2, c3, c4, c5⟩ := S6.of H2.out.blk
       replace o3 := pw_cell_below H2.out.bel o3
       have p4 : (y : Int) < (objs.length : Int) := by omega
       go_wp2_with (refine KS.append rfl (.tmp 78) (.tmp 85) rfl Tryz.underlying25 kinfo3 ps A8 c8 rfl (by first | (go_simp; done) | (go_simp; rfl)) H2.out hC3 (by omega) ?_; intro v1 w6 h hk; have H6 := Aside0.mk h; have HM6 := Aside0.mk (hk _ _ _ _ HM2.out); clear h hk)
       go_roundg k1
       case measure => exact Nat.lt_succ_self _
       case rel => exact ⟨T ++ ps, _, t + 1, by simp only [List.length_append, List.length_singleton]; go_num, by go_num, HKN, H6, HM6⟩
     ·have p1 : ¬ (t : Int) < (T.length : Int) := by omega
      rw [if_neg hlt] at HKN
      have hq : (((s.2.length : Nat) : Int) == ((objs.length : Nat) : Int)) = r := by rw [← Option.some.inj HKN.out, Bool.eq_iff_iff]; simp; omega
      go_wp2_with (fail)
      go_ret
      exact ⟨by rw [← hq]; rfl, H.out.bel⟩
end Go.Proofs.YtihjjkoddphmiaaGreatDoor.img
namespace Go.Proofs.YtihjjkoddphmiaaGreatDoor.img
open Go.RowKit Go.Proofs.YtihjjkoddphmiaaGreatDoorW.PrintWords Go.Proofs.YtihjjkoddphmiaaGreatDoorW.PrintLast Go.Proofs.YtihjjkoddphmiaaGreatDoorW.PrintMore Go.Proofs.YtihjjkoddphmiaaGreatDoor.PImageApart
set_option linter.unusedVariables false
set_option linter.unusedSimpArgs false

set_option maxHeartbeats 8000000 in
set_option maxRecDepth 100000 in
theorem lists_any (L : Lay) (g : Gr) (hm : Mild g) (w : World) (hR : Rd w L g) :
  Calls Tryz.prog 55 #[.agg (gcells L g).toArray] w fun e w' => e = .returned (.bool (numsB g.objs.length 1 g.queue && regB g)) ∧ Below w.heap.size w w' := by
 obtain ⟨A0, A1, A2, A3, A4, k0, k1, k2, k3, k4⟩ := L
 obtain ⟨objs, slots, handles, registry, queue, next⟩ := g
 have HR := Aside0.mk hR
 have hl0 : objs.length ≤ 1000000 := hm.objs
 have hl3 : registry.length ≤ 1000000 := hm.registry
 have hl4 : queue.length ≤ 1000000 := hm.queue
 unfold regB
 simp only
 obtain ⟨W, hW⟩ : ∃ W, W = w.alloc (.cells #[.slice A0 objs.length k0, .slice A1 slots.length k1, .slice A2 handles.length k2, .slice A3 registry.length k3, .slice A4 queue.length k4, .int .u64 next] 44) := ⟨_, rfl⟩
 have HB : Aside0 (Below w.heap.size w W) := ⟨by rw [hW]; exact below_alloc (Below.refl _ _) _⟩
 have HK : Aside0 (W.heap[w.heap.size]? = some (.cells #[.slice A0 objs.length k0, .slice A1 slots.length k1, .slice A2 handles.length k2, .slice A3 registry.length k3, .slice A4 queue.length k4, .int .u64 next] 44 (0, 0))) := ⟨by rw [hW]; exact heap_alloc_new w _⟩
 have HW := Aside0.mk hW
 have HF := Aside0.mk (finals_hand ⟨A0, A1, A2, A3, A4, k0, k1, k2, k3, k4⟩ ⟨objs, slots, handles, registry, queue, next⟩ hl0 W (HR.out.below HB.out).r0)
 have hfl : (finals objs).length ≤ 1000000 := by
  have := finalsFrom_len objs 0
  unfold finals
  omega
 have HFI := Aside0.mk (show finals objs = finals objs from rfl)
 change Aside0 (Calls Tryz.prog 20 _ W fun e w' => ∃ v0_ : Value, e = .returned v0_ ∧ Kd.R (Kd.int .i64) 3 w' W.heap.size (fun _ => True) v0_ (finals objs) ∧ Below W.heap.size W w') at HF
 generalize finals objs = fs at HF hfl ⊢
 obtain ⟨bq, hbq⟩ : ∃ bq, numsB objs.length 1 queue = bq := ⟨_, rfl⟩
 have HBQ := Aside0.mk hbq
 rw [hbq]
 obtain ⟨res, hres⟩ : ∃ res, res = (bq && (if fs.length = registry.length then (decide (fs = registry) && queueB objs (List.replicate (objs.length + 1) false) queue) else false)) := ⟨_, rfl⟩
 rw [← hres]
 have HRES := Aside0.mk hres
 have c0 : W.cell? ⟨w.heap.size, 0, none⟩ = some (.slice A0 objs.length k0) := (blk_cell HK.out 0).trans rfl
 have c1 : W.cell? ⟨w.heap.size, 1, none⟩ = some (.slice A1 slots.length k1) := (blk_cell HK.out 1).trans rfl
 have c2 : W.cell? ⟨w.heap.size, 2, none⟩ = some (.slice A2 handles.length k2) := (blk_cell HK.out 2).trans rfl
 have c3 : W.cell? ⟨w.heap.size, 3, none⟩ = some (.slice A3 registry.length k3) := (blk_cell HK.out 3).trans rfl
 have c4 : W.cell? ⟨w.heap.size, 4, none⟩ = some (.slice A4 queue.length k4) := (blk_cell HK.out 4).trans rfl
 have c5 : W.cell? ⟨w.heap.size, 5, none⟩ = some (.int .u64 next) := (blk_cell HK.out 5).trans rfl
 clear hR hm hbq hres hW
 go_enter Tryz.func55, Tryz.ntmps55
 go_upto_region 1 with (fail)
 rw [← HW.out]
 go_wp2_with (fail)
 refine HF.out.mono ?_
 rintro en w1 ⟨v5, rfl, hv5, hb1⟩
 obtain ⟨A5, k5, rfl, h5, hC5⟩ := Kd.R_reads hv5
 have HC5 := Aside0.mk hC5
 have HB1 := Aside0.mk (below_step HB.out hb1)
 have HK1 := Aside0.mk (blk_below HK.out hb1)
 clear HF hb1 hv5 hC5 c0 c1 c2 c3 c4 c5 HW HK
 have c0 : w1.cell? ⟨w.heap.size, 0, none⟩ = some (.slice A0 objs.length k0) := (blk_cell HK1.out 0).trans rfl
 have c3 : w1.cell? ⟨w.heap.size, 3, none⟩ = some (.slice A3 registry.length k3) := (blk_cell HK1.out 3).trans rfl
 have c4 : w1.cell? ⟨w.heap.size, 4, none⟩ = some (.slice A4 queue.length k4) := (blk_cell HK1.out 4).trans rfl
 by_cases s1 : fs.length = registry.length
 case neg =>
  obtain rfl : res = false := by rw [HRES.out, if_neg s1]; simp
  have s2 : ¬ (fs.length : Int) = (registry.length : Int) := by omega
  go_wp2_with (fail)
  go_ret
  exact ⟨rfl, HB1.out⟩
 have HBT := Aside0.mk (between_any A4 k4 queue 1 objs.length w1 hl4 (HR.out.below HB1.out).r4 HR.out.h4)
 rw [HBQ.out] at HBT
 have HRS := HRES
 rw [if_pos s1] at HRS
 have s2 : (fs.length : Int) = (registry.length : Int) := by omega
 clear HRES
 go_wp2_with (fail)
 refine HBT.out.mono ?_
 rintro en w2 ⟨rfl, nd, rfl⟩
 cases bq with
 | false =>
  obtain rfl : res = false := by simpa using HRS.out
  go_wp2_with (fail)
  go_ret
  exact ⟨rfl, pw_below_drewN HB1.out _⟩
 | true =>
  have HX : Aside0 (Below w1.heap.size w1 (w1.drewN nd)) := ⟨pw_below_drewN (Below.refl _ _) _⟩
  generalize w1.drewN nd = W1 at HX ⊢
  clear HBT c0 c3 c4
  go_wp2_with (fail)
  go_loopw [4] (fun i wr => ∃ t : Nat, t ≤ fs.length ∧ i = .int .i64 t ∧ Aside0 (fs.take t = registry.take t) ∧ Aside0 (Below w1.heap.size w1 wr)) (fun i _ => fs.length - (intOf i).toNat)
  case atStart => exact ⟨0, Nat.zero_le _, rfl, ⟨rfl⟩, HX⟩
  case round =>
   clear HX
   obtain ⟨t, ht, rfl, HEQ, HX⟩ := hrel
   have HKX := Aside0.mk (blk_below HK1.out HX.out)
   have c0 : wr.cell? ⟨w.heap.size, 0, none⟩ = some (.slice A0 objs.length k0) := (blk_cell HKX.out 0).trans rfl
   have c3 : wr.cell? ⟨w.heap.size, 3, none⟩ = some (.slice A3 registry.length k3) := (blk_cell HKX.out 3).trans rfl
   have c4 : wr.cell? ⟨w.heap.size, 4, none⟩ = some (.slice A4 queue.length k4) := (blk_cell HKX.out 4).trans rfl
   by_cases hlt : t < fs.length
   ·obtain ⟨a5, rfl, q5⟩ := num_at (Kd.C_below HC5.out HX.out) hlt
    obtain ⟨a3, rfl, q3⟩ := num_at (Kd.C_below (HR.out.below HB1.out).r3 HX.out) (show t < registry.length by omega)
    have p1 : (t : Int) < (fs.length : Int) := by omega
    have p2 : (t : Int) < (registry.length : Int) := by omega
    have HS : Aside0 (fs.take (t + 1) = fs.take t ++ [fs.getD t 0] ∧ registry.take (t + 1) = registry.take t ++ [registry.getD t 0]) := ⟨by
     constructor
     ·rw [List.take_succ_eq_append_getElem hlt, List.getD_eq_getElem?_getD, List.getElem?_eq_getElem hlt]; rfl
     ·rw [List.take_succ_eq_append_getElem (show t < registry.length by omega), List.getD_eq_getElem?_getD, List.getElem?_eq_getElem (show t < registry.length by omega)]; rfl⟩
    generalize fs.getD t 0 = x at q5 HS
    generalize registry.getD t 0 = y at q3 HS
    by_cases exy : x = y
    ·subst exy
     have HN : Aside0 (fs.take (t + 1) = registry.take (t + 1)) := ⟨by rw [HS.out.1, HS.out.2, HEQ.out]⟩
     go_wp2_with (fail)
     go_quiet (fail)
     go_wp2_with (fail)
     go_roundw
     case rel => exact ⟨t + 1, by omega, by go_num, HN, ⟨pw_below_drewN HX.out _⟩⟩
     case measure => simp [intOf]; omega
    ·obtain rfl : res = false := by
      have : fs ≠ registry := fun e => by
       have h1 := HS.out.1
       have h2 := HS.out.2
       rw [e] at h1
       rw [h1] at h2
       have h3 := List.append_inj_right' h2 rfl
       exact exy (by simpa using h3)
      rw [HRS.out, decide_eq_false this]
      simp
     go_wp2_with (fail)
     go_quiet (fail)
     go_wp2_with (fail)
     go_ret
     exact ⟨rfl, pw_below_drewN (below_step HB1.out HX.out) _⟩
   ·have HFR : Aside0 (fs = registry) := ⟨by
     have := HEQ.out
     rwa [List.take_of_length_le (by omega), List.take_of_length_le (by omega)] at this⟩
    have HRQ : Aside0 (res = queueB objs (List.replicate (objs.length + 1) false) (queue.drop 0)) := ⟨by rw [HRS.out, decide_eq_true HFR.out]; simp⟩
    have HB2 := Aside0.mk (below_step HB1.out HX.out)
    have hn0 : ((objs.length : Int) + 1).toNat = objs.length + 1 := by omega
    clear HRS HEQ HFR
    go_wp2_with (first | ((with_reducible refine gate_dst (N := 45) rfl ?_); refine Kd.R_make Kd.bool _ 4 rfl (N := 45) rfl 125 _ _ rfl ((objs.length : Int) + 1) rfl rfl Tryz.underlying125 (.bool false) 1 info4 rfl (by decide) (by omega) false (ok := fun _ => True) (okp := fun _ => True) rfl (fun _ hk => hk) trivial (by omega) (by omega) (Below.refl _ _) (Nat.le_refl _) ?_; intro v1 w3 ho hb hg hnew; rw [hn0] at ho; have HO := Aside0.mk ho; have HB3 := Aside0.mk hb; clear ho hb hg hnew))
    obtain ⟨go, co, rfl, gbo, -, -⟩ := Kd.R_form HO.out (by simp)
    have HG := Aside0.mk gbo
    rw [List.length_replicate] at HO ⊢
    obtain ⟨W4, hW4⟩ : ∃ W4, wr = W4 := ⟨_, rfl⟩
    rw [hW4] at HO HB3 HB2 HG HKX
    have HT0 : Aside0 (Below W4.heap.size W4 w3 ∧ Kd.R Kd.bool 4 w3 W4.heap.size (fun _ => True) (.slice (some ⟨go, 0, none⟩) (objs.length + 1) co) (List.replicate (objs.length + 1) false) ∧ (List.replicate (objs.length + 1) false).length = objs.length + 1) := ⟨HB3.out, HO.out, by simp⟩
    clear HO HB3 gbo c0 c3 c4 HX hW4
    go_loopw [6, 7] (fun i n wr => ∃ (t : Nat) (seen : List Bool), t ≤ queue.length ∧ i = .int .i64 t ∧ Aside0 (res = queueB objs seen (queue.drop t)) ∧ Aside0 (Below W4.heap.size W4 wr ∧ Kd.R Kd.bool 4 wr W4.heap.size (fun _ => True) (.slice (some ⟨go, 0, none⟩) (objs.length + 1) co) seen ∧ seen.length = objs.length + 1)) (fun i _ _ => queue.length - (intOf i).toNat)
    case atStart => exact ⟨0, _, Nat.zero_le _, rfl, HRQ, HT0⟩
    case round =>
     clear HRQ HT0
     obtain ⟨t, seen, ht, rfl, HRQ, HT⟩ := hrel
     have HKY := Aside0.mk (blk_below HKX.out HT.out.1)
     have HRX := Aside0.mk ((HR.out.below HB2.out).below HT.out.1)
     have c0 : wr.cell? ⟨w.heap.size, 0, none⟩ = some (.slice A0 objs.length k0) := (blk_cell HKY.out 0).trans rfl
     have c4 : wr.cell? ⟨w.heap.size, 4, none⟩ = some (.slice A4 queue.length k4) := (blk_cell HKY.out 4).trans rfl
     by_cases hlt : t < queue.length
     ·obtain ⟨a4, rfl, q4⟩ := num_at HRX.out.r4 hlt
      have hb := nums_get HBQ.out (get_mem (d := 0) hlt)
      have HD : Aside0 (queue.drop t = queue.getD t 0 :: queue.drop (t + 1)) := ⟨drop_get queue t 0 hlt⟩
      generalize queue.getD t 0 = x at q4 hb HD
      obtain ⟨n, rfl⟩ : ∃ n : Nat, x = (n : Int) + 1 := ⟨(x - 1).toNat, by omega⟩
      have hn : n < objs.length := by omega
      obtain ⟨hx0, hf0⟩ := Kd.R_celln false HT.out.2.1 ((n : Int) + 1) (by omega) (by omega)
      obtain ⟨a0, A8, c8, A9, c9, rfl, -, o1, -⟩ := obj_at HRX.out.r0 hn
      rw [HD.out, queueB, show ((n : Int) + 1).toNat = n + 1 by omega, show ((n : Int) + 1 - 1).toNat = n by omega] at HRQ
      rw [show ((n : Int) + 1).toNat = n + 1 by omega] at hx0 hf0
      have hrd : rdOf false seen ((n : Int) + 1) = seen.getD (n + 1) false := by show seen.getD ((n : Int) + 1).toNat false = _; rw [show ((n : Int) + 1).toNat = n + 1 by omega]
      rw [hrd] at hx0
      have p1 : (t : Int) < (queue.length : Int) := by omega
      have p2 : (n : Int) + 1 < (objs.length : Int) + 1 := by omega
      have p3 : (n : Int) < (objs.length : Int) := by omega
      have p4 : (0 : Int) ≤ (n : Int) + 1 := by omega
      have p5 : ((n : Int) + 1).toNat = n + 1 := by omega
      have HBF := Aside0.mk (show Below w.heap.size w wr from HB2.out.trans (HT.out.1.mono HB2.out.size))
      obtain ⟨sb, hsb⟩ : ∃ sb, seen.getD (n + 1) false = sb := ⟨_, rfl⟩
      obtain ⟨kd, hkd⟩ : ∃ kd, (objs.getD n z66).f1 = kd := ⟨_, rfl⟩
      rw [hsb] at hx0 HRQ
      rw [hkd] at o1 HRQ
      clear hrd hsb hkd HD hb
      cases sb with
      | true =>
       obtain rfl : res = false := by rw [HRQ.out, if_pos rfl]
       go_wp2_with (fail)
       go_ret
       exact ⟨rfl, HBF.out⟩
      | false =>
       by_cases hk4 : kd = 4
       ·subst hk4
        obtain rfl : res = false := by rw [HRQ.out, if_neg (by decide), if_pos rfl]
        go_wp2_with (fail)
        go_ret
        exact ⟨rfl, HBF.out⟩
       ·have HN : Aside0 (res = queueB objs (seen.set (n + 1) true) (queue.drop (t + 1))) := ⟨by rw [HRQ.out, if_neg (by decide), if_neg hk4]⟩
        have hput := Kd.R_putn HT.out.2.1 ((n : Int) + 1) true
        rw [p5] at hput
        have HT2 : Aside0 (Below W4.heap.size W4 (wr.setCell ⟨go, n + 1, none⟩ (.bool true)) ∧ Kd.R Kd.bool 4 (wr.setCell ⟨go, n + 1, none⟩ (.bool true)) W4.heap.size (fun _ => True) (.slice (some ⟨go, 0, none⟩) (objs.length + 1) co) (seen.set (n + 1) true) ∧ (seen.set (n + 1) true).length = objs.length + 1) := ⟨HT.out.1.setCell HG.out _, hput, by rw [List.length_set]; exact HT.out.2.2⟩
        clear hput HRQ
        go_wp2_with (fail)
        go_roundw
        case rel => exact ⟨t + 1, _, by omega, by go_num, HN, HT2⟩
        case measure => simp [intOf]; omega
     ·obtain rfl : res = true := by
       have : queue.drop t = [] := List.drop_eq_nil_of_le (by omega)
       rw [this] at HRQ
       exact HRQ.out
      go_wp2_with (fail)
      go_ret
      exact ⟨rfl, HB2.out.trans (HT.out.1.mono HB2.out.size)⟩
end Go.Proofs.YtihjjkoddphmiaaGreatDoor.img
namespace Go.Proofs.YtihjjkoddphmiaaGreatDoor.img
open Go.RowKit Go.Proofs.YtihjjkoddphmiaaGreatDoorW.PrintWords Go.Proofs.YtihjjkoddphmiaaGreatDoorW.PrintLast Go.Proofs.YtihjjkoddphmiaaGreatDoorW.PrintMore Go.Proofs.YtihjjkoddphmiaaGreatDoor.PImageApart
set_option linter.unusedVariables false
set_option linter.unusedSimpArgs false

/-- All rules: in the reference's order they come to the same. -/
theorem ok_same (g : Gr) : (objsB g && (slotsOk g && ((numsB g.objs.length 1 g.queue && regB g) && knownB g))) = okB g := by
 unfold okB slotsOk holdB tailB
 cases objsB g
 ·rfl
 rw [Bool.true_and, if_pos rfl]
 by_cases h1 : g.slots.length < 1
 ·rw [if_pos h1, if_pos h1]; rfl
 rw [if_neg h1, if_neg h1]
 by_cases h2 : g.slots.length > 8
 ·rw [if_pos h2, if_pos h2]; rfl
 rw [if_neg h2, if_neg h2]
 by_cases h3 : g.handles.length > 1024
 ·rw [if_pos h3, if_pos h3]; rfl
 rw [if_neg h3, if_neg h3]
 cases numsB g.objs.length (-1) g.handles <;> cases slotsB g.objs.length g.slots <;> cases numsB g.objs.length 1 g.queue <;> cases regB g <;> cases knownB g <;> rfl
end Go.Proofs.YtihjjkoddphmiaaGreatDoor.img
namespace Go.Proofs.YtihjjkoddphmiaaGreatDoor.img
open Go.RowKit Go.Proofs.YtihjjkoddphmiaaGreatDoorW.PrintWords Go.Proofs.YtihjjkoddphmiaaGreatDoorW.PrintLast Go.Proofs.YtihjjkoddphmiaaGreatDoorW.PrintMore Go.Proofs.YtihjjkoddphmiaaGreatDoor.PImageApart
set_option linter.unusedVariables false
set_option linter.unusedSimpArgs false

theorem hold_of {g : Gr} (h1 : slotsOk g = true) (h2 : (numsB g.objs.length 1 g.queue && regB g) = true) : holdB g = true := by
 unfold slotsOk at h1
 unfold holdB tailB
 by_cases a1 : g.slots.length < 1
 ·rw [if_pos a1] at h1; exact absurd h1 (by decide)
 by_cases a2 : g.slots.length > 8
 ·rw [if_neg a1, if_pos a2] at h1; exact absurd h1 (by decide)
 by_cases a3 : g.handles.length > 1024
 ·rw [if_neg a1, if_neg a2, if_pos a3] at h1; exact absurd h1 (by decide)
 rw [if_neg a1, if_neg a2, if_neg a3, Bool.and_eq_true] at h1
 rw [Bool.and_eq_true] at h2
 rw [if_neg a1, if_neg a2, if_neg a3, h1.1, h1.2, h2.1, h2.2]
 rfl
/-- The argument's block. -/
structure Bx (w w' : World) (v0 v1 v2 v3 v4 v5 : Value) : Prop where
 bel : Below w.heap.size w w'
 blk : w'.heap[w.heap.size]? = some (.cells #[v0, v1, v2, v3, v4, v5] 44 (0, 0))
theorem Bx.start (w : World) (v0 v1 v2 v3 v4 v5 : Value) : Bx w (w.alloc (.cells #[v0, v1, v2, v3, v4, v5] 44)) v0 v1 v2 v3 v4 v5 := ⟨below_alloc (Below.refl _ _) _, heap_alloc_new w _⟩
theorem Bx.below {w w' w2 : World} {v0 v1 v2 v3 v4 v5 : Value} (h : Bx w w' v0 v1 v2 v3 v4 v5) (hb : Below w'.heap.size w' w2) : Bx w w2 v0 v1 v2 v3 v4 v5 := ⟨below_step h.bel hb, blk_below h.blk hb⟩
theorem Bx.cells {w w' : World} {v0 v1 v2 v3 v4 v5 : Value} (h : Bx w w' v0 v1 v2 v3 v4 v5) : w'.cell? ⟨w.heap.size, 0, none⟩ = some v0 ∧ w'.cell? ⟨w.heap.size, 1, none⟩ = some v1 ∧ w'.cell? ⟨w.heap.size, 2, none⟩ = some v2 ∧ w'.cell? ⟨w.heap.size, 3, none⟩ = some v3 ∧ w'.cell? ⟨w.heap.size, 4, none⟩ = some v4 ∧ w'.cell? ⟨w.heap.size, 5, none⟩ = some v5 :=
 ⟨(blk_cell h.blk 0).trans rfl, (blk_cell h.blk 1).trans rfl, (blk_cell h.blk 2).trans rfl, (blk_cell h.blk 3).trans rfl, (blk_cell h.blk 4).trans rfl, (blk_cell h.blk 5).trans rfl⟩

theorem robjects_any (L : Lay) (g : Gr) (ht : Tame g) (w : World) (hR : Rd w L g) : Calls Tryz.prog 53 #[.agg (gcells L g).toArray] w fun e w' => e = .returned (.bool (objsB g)) ∧ Below w.heap.size w w' := robjects_hand L g ht w hR
theorem rlists_any (L : Lay) (g : Gr) (ht : Tame g) (w : World) (hR : Rd w L g) : Calls Tryz.prog 55 #[.agg (gcells L g).toArray] w fun e w' => e = .returned (.bool (numsB g.objs.length 1 g.queue && regB g)) ∧ Below w.heap.size w w' := lists_any L g ht.mild w hR
theorem rknown_any (L : Lay) (g : Gr) (ht : Tame g) (hp : Pts g) (hr : (rootL g).length ≤ 1000000000) (w : World) (hR : Rd w L g) : Calls Tryz.prog 56 #[.agg (gcells L g).toArray] w fun e w' => e = .returned (.bool (knownB g)) ∧ Below w.heap.size w w' := known_hand L g ht.mild hp hr w hR

set_option maxHeartbeats 8000000 in
set_option maxRecDepth 100000 in
/-- The reference's answer is whether the graph may be. -/
theorem RefCheck_any (L : Lay) (g : Gr) (ht : Tame g) (hr : (rootL g).length ≤ 1000000000) (w : World) (hR : Rd w L g) :
  Calls Tryz.prog 22 #[.agg (gcells L g).toArray] w fun e w' => e = .returned (.int .i64 (if okB g = true then 0 else 164)) ∧ Below w.heap.size w w' := by
 have HP : Aside0 (objsB g = true → holdB g = true → Pts g) := ⟨pts_of ht.objs⟩
 obtain ⟨b1, hb1⟩ : ∃ b, objsB g = b := ⟨_, rfl⟩
 obtain ⟨b2, hb2⟩ : ∃ b, slotsOk g = b := ⟨_, rfl⟩
 obtain ⟨b3, hb3⟩ : ∃ b, (numsB g.objs.length 1 g.queue && regB g) = b := ⟨_, rfl⟩
 obtain ⟨b4, hb4⟩ : ∃ b, knownB g = b := ⟨_, rfl⟩
 have hok : okB g = (b1 && (b2 && (b3 && b4))) := by rw [← hb1, ← hb2, ← hb3, ← hb4]; exact (ok_same g).symm
 rw [hok]
 have H1 := Aside0.mk (fun wx (hb : Below w.heap.size w wx) => robjects_any L g ht wx (hR.below hb))
 have H2 := Aside0.mk (fun wx (hb : Below w.heap.size w wx) => slots_any L g ht.mild wx (hR.below hb))
 have H3 := Aside0.mk (fun wx (hb : Below w.heap.size w wx) => rlists_any L g ht wx (hR.below hb))
 have H4 := Aside0.mk (fun (q1 : b1 = true) (q2 : b2 = true) (q3 : b3 = true) wx (hb : Below w.heap.size w wx) => rknown_any L g ht (HP.out (hb1.trans q1) (hold_of (hb2.trans q2) (hb3.trans q3))) hr wx (hR.below hb))
 rw [hb1] at H1
 rw [hb2] at H2
 rw [hb3] at H3
 rw [hb4] at H4
 obtain ⟨C, hC⟩ : ∃ C : List Value, gcells L g = C := ⟨_, rfl⟩
 rw [hC] at H1 H2 H3 H4 ⊢
 obtain ⟨v0, v1, v2, v3, v4, v5, rfl⟩ : ∃ v0 v1 v2 v3 v4 v5, C = [v0, v1, v2, v3, v4, v5] := ⟨_, _, _, _, _, _, hC.symm⟩
 have HB0 := Aside0.mk (Bx.start w v0 v1 v2 v3 v4 v5)
 clear ht hr hR hb1 hb2 hb3 hb4 hok HP hC
 go_enter Tryz.func22, Tryz.ntmps22
 go_wp2_with (fail)
 refine (H1.out _ HB0.out.bel).mono ?_
 rintro en w1 ⟨rfl, hb1⟩
 have HB1 := Aside0.mk (HB0.out.below hb1)
 obtain ⟨k0, k1, k2, k3, k4, k5⟩ := HB1.out.cells
 clear hb1 HB0
 cases b1
 ·go_wp2_with (fail)
  go_ret
  exact ⟨rfl, HB1.out.bel⟩
 go_wp2_with (fail)
 refine (H2.out _ HB1.out.bel).mono ?_
 rintro en w2 ⟨rfl, hb2⟩
 have HB2 := Aside0.mk (HB1.out.below hb2)
 clear k0 k1 k2 k3 k4 k5 hb2 HB1
 obtain ⟨k0, k1, k2, k3, k4, k5⟩ := HB2.out.cells
 cases b2
 ·go_wp2_with (fail)
  go_ret
  exact ⟨rfl, HB2.out.bel⟩
 go_wp2_with (fail)
 refine (H3.out _ HB2.out.bel).mono ?_
 rintro en w3 ⟨rfl, hb3⟩
 have HB3 := Aside0.mk (HB2.out.below hb3)
 clear k0 k1 k2 k3 k4 k5 hb3 HB2
 obtain ⟨k0, k1, k2, k3, k4, k5⟩ := HB3.out.cells
 cases b3
 ·go_wp2_with (fail)
  go_ret
  exact ⟨rfl, HB3.out.bel⟩
 go_wp2_with (fail)
 refine (H4.out (by trivial) (by trivial) (by trivial) _ HB3.out.bel).mono ?_
 rintro en w4 ⟨rfl, hb4⟩
 have HB4 := Aside0.mk (HB3.out.below hb4)
 clear k0 k1 k2 k3 k4 k5 hb4 HB3
 cases b4
 ·go_wp2_with (fail)
  go_ret
  exact ⟨rfl, HB4.out.bel⟩
 ·go_wp2_with (fail)
  go_ret
  exact ⟨rfl, HB4.out.bel⟩
end Go.Proofs.YtihjjkoddphmiaaGreatDoor.img
