/-
  The law of ImageApart: what its walk holds.
-/
import Derived.Test.YtihjjkoddphmiaaGreatDoorNIm5
import Derived.Test.YtihjjkoddphmiaaGreatDoorNSmG
import Derived.Test.YtihjjkoddphmiaaGreatDoorNRefRd
import Derived.Test.YtihjjkoddphmiaaGreatDoorNRefWb
import Derived.Test.YtihjjkoddphmiaaGreatDoorNImgGot
import Derived.Test.YtihjjkoddphmiaaGreatDoorNBkP
import Derived.Test.YtihjjkoddphmiaaGreatDoorNImgOpen
namespace Go.Proofs.YtihjjkoddphmiaaGreatDoor.img
open Go.RowKit Go.Proofs.YtihjjkoddphmiaaGreatDoorW.PrintWords Go.Proofs.YtihjjkoddphmiaaGreatDoorW.PrintLast Go.Proofs.YtihjjkoddphmiaaGreatDoorW.PrintMore Go.Proofs.YtihjjkoddphmiaaGreatDoor.PImageApart
set_option linter.unusedVariables false
set_option linter.unusedSimpArgs false

theorem sum_drop {α : Type} (f : α → Nat) (l : List α) (i : Nat) (z : α) (h : i < l.length) : ((l.drop i).map f).sum = f (l.getD i z) + ((l.drop (i + 1)).map f).sum := by
 rw [drop_get l i z h, List.map_cons, List.sum_cons]
/-- What is counted so far (m), what is left (r), the whole (T). -/
def Cnt (T m r : Nat) : Prop := m + r = T ∨ (16384 < m ∧ m ≤ T)
set_option maxHeartbeats 8000000 in
set_option maxRecDepth 100000 in
theorem small_hand (L : Lay) (g : Gr) (hrm : Roomy g) (w : World) (hR : Rd w L g) :
  Calls Tryz.prog 4 #[.agg (gcells L g).toArray] w fun e w' => e = .returned (.bool (decide (total g ≤ 16384))) ∧ Below w.heap.size w w' := by
 obtain ⟨A0, A1, A2, A3, A4, k0, k1, k2, k3, k4⟩ := L
 obtain ⟨T, hTe⟩ : ∃ T, T = total g := ⟨_, rfl⟩
 rw [← hTe]
 obtain ⟨objs, slots, handles, registry, queue, next⟩ := g
 have hT : T = objs.length + slots.length + handles.length + registry.length + queue.length + sumO objs + sumS slots := hTe
 have HR := Aside0.mk hR
 have HM := Aside0.mk hrm
 have hl0 : objs.length ≤ 140737488355328 := hrm.objs
 have hl1 : slots.length ≤ 140737488355328 := hrm.slots
 have hl2 : handles.length ≤ 140737488355328 := hrm.handles
 have hl3 : registry.length ≤ 140737488355328 := hrm.registry
 have hl4 : queue.length ≤ 140737488355328 := hrm.queue
 have HQ0 : Aside0 (Cnt T (objs.length + slots.length + handles.length + registry.length + queue.length) (sumO (objs.drop 0) + sumS slots)) := ⟨.inl (by rw [List.drop_zero]; omega)⟩
 obtain ⟨W, hW⟩ : ∃ W, W = w.alloc (.cells #[.slice A0 objs.length k0, .slice A1 slots.length k1, .slice A2 handles.length k2, .slice A3 registry.length k3, .slice A4 queue.length k4, .int .u64 next] 44) := ⟨_, rfl⟩
 have HB : Aside0 (Below w.heap.size w W) := ⟨by rw [hW]; exact below_alloc (Below.refl _ _) _⟩
 have HK : Aside0 (W.heap[w.heap.size]? = some (.cells #[.slice A0 objs.length k0, .slice A1 slots.length k1, .slice A2 handles.length k2, .slice A3 registry.length k3, .slice A4 queue.length k4, .int .u64 next] 44 (0, 0))) := ⟨by rw [hW]; exact heap_alloc_new w _⟩
 have HW := Aside0.mk hW
 have HX := Aside0.mk (Below.refl W.heap.size W)
 obtain ⟨c0, c1, c2, c3, c4, -⟩ := S6.of HK.out
 clear hR hrm hW hTe hT
 go_enter Tryz.func4, Tryz.ntmps4
 go_upto_region 1 with (fail)
 rw [← HW.out]
 go_wp2_with (fail)
 go_loopw [3, 4] (fun s i wr => ∃ t m : Nat, t ≤ objs.length ∧ m ≤ 1000000000000000 ∧ s = .int .i64 m ∧ i = .int .i64 t ∧ Aside0 (Cnt T m (sumO (objs.drop t) + sumS slots)) ∧ Aside0 (Below W.heap.size W wr)) (fun _ i _ => objs.length - (intOf i).toNat)
 case atStart => exact ⟨0, _, Nat.zero_le _, (by omega : objs.length + slots.length + handles.length + registry.length + queue.length ≤ 1000000000000000), by go_num, rfl, HQ0, HX⟩
 case round =>
  clear HQ0 HX c0 c1 c2 c3 c4
  obtain ⟨t, m, ht, hm, rfl, rfl, HQ, HX⟩ := hrel
  have HKX := Aside0.mk (blk_below HK.out HX.out)
  obtain ⟨c0, c1, -⟩ := S6.of HKX.out
  by_cases hlt : t < objs.length ∧ m ≤ 16384
  ·obtain ⟨hlt, hm2⟩ := hlt
   have p1 : (t : Int) < (objs.length : Int) := by omega
   have p2 : (m : Int) ≤ 16384 := by omega
   obtain ⟨ad, A5, k5, A6, k6, rfl, o0, o1, o2, o3, o4, -, -⟩ := obj_at (HR.out.below (below_step HB.out HX.out)).r0 hlt
   have HD : Aside0 (sumO (objs.drop t) = ((objs.getD t PImageApart.z66).f3.length + (objs.getD t PImageApart.z66).f4.length) + sumO (objs.drop (t + 1))) := ⟨sum_drop _ objs t PImageApart.z66 hlt⟩
   have hob := HM.out.obj _ (get_mem (d := PImageApart.z66) hlt)
   generalize objs.getD t PImageApart.z66 = o at *
   obtain ⟨f0, f1, f2, f3, f4⟩ := o
   simp only at o3 o4 hob HD
   have hf3 := hob.1
   have hf4 := hob.2
   have HQ2 : Aside0 (Cnt T (m + f3.length + f4.length) (sumO (objs.drop (t + 1)) + sumS slots)) := ⟨by have := HQ.out; have := HD.out; unfold Cnt at *; omega⟩
   clear HD HQ hob o0 o1 o2
   go_wp2_with (fail)
   go_quiet (fail)
   go_wp2_with (fail)
   go_roundw
   case rel => exact ⟨t + 1, m + f3.length + f4.length, by omega, by omega, by go_num, by go_num, HQ2, ⟨pw_below_drewN HX.out _⟩⟩
   case measure => simp [intOf]; omega
  ·have HQ1 : Aside0 (Cnt T m (sumS (slots.drop 0))) := ⟨by
    have := HQ.out
    rw [List.drop_zero]
    unfold Cnt at *
    by_cases e : t = objs.length
    ·rw [e, List.drop_length] at this
     have e0 : sumO [] = 0 := rfl
     omega
    ·omega⟩
   clear HQ
   have HX2 := Aside0.mk (Below.refl wr.heap.size wr)
   rcases (show ¬ t < objs.length ∨ (t < objs.length ∧ ¬ m ≤ 16384) by omega) with e | ⟨e, e2⟩
   all_goals
    first | (have p1 : (t : Int) < (objs.length : Int) := (by omega); have p2 : ¬ (m : Int) ≤ 16384 := by omega) | have p1 : ¬ (t : Int) < (objs.length : Int) := by omega
    go_wp2_with (fail)
    go_loopw [3, 5] (fun s i wq => ∃ t m : Nat, t ≤ slots.length ∧ m ≤ 1000000000000000 ∧ s = .int .i64 m ∧ i = .int .i64 t ∧ Aside0 (Cnt T m (sumS (slots.drop t))) ∧ Aside0 (Below W.heap.size W wq)) (fun _ i _ => slots.length - (intOf i).toNat)
    case atStart => exact ⟨0, m, Nat.zero_le _, hm, rfl, rfl, HQ1, HX⟩
    case round =>
     clear HQ1 HX c0 c1 HKX e hm p1
     obtain ⟨t, m, ht, hm, rfl, rfl, HQ, HX⟩ := hrel
     have HKX := Aside0.mk (blk_below HK.out HX.out)
     obtain ⟨-, c1, -⟩ := S6.of HKX.out
     by_cases hlt : t < slots.length ∧ m ≤ 16384
     ·obtain ⟨hlt, hm2⟩ := hlt
      have p1 : (t : Int) < (slots.length : Int) := by omega
      have p2 : (m : Int) ≤ 16384 := by omega
      obtain ⟨ad, A5, k5, rfl, h5, hC5⟩ := fr_at (HR.out.below (below_step HB.out HX.out)).r1 hlt
      have HD : Aside0 (sumS (slots.drop t) = ((slots.getD t []).length + sumF (slots.getD t [])) + sumS (slots.drop (t + 1))) := ⟨sum_drop _ slots t [] hlt⟩
      have hfr := HM.out.frames _ (get_mem (d := []) hlt)
      generalize slots.getD t [] = fr at *
      have HFR := Aside0.mk hfr
      have HC5 := Aside0.mk hC5
      have hlf := hfr.1
      have HQ2 : Aside0 (Cnt T (m + fr.length) (sumF (fr.drop 0) + sumS (slots.drop (t + 1)))) := ⟨by have := HQ.out; have := HD.out; rw [List.drop_zero]; unfold Cnt at *; omega⟩
      clear HD HQ hfr hC5
      go_wp2_with (fail)
      go_loopw [3, 6] (fun s i wq => ∃ f m : Nat, f ≤ fr.length ∧ m ≤ 1000000000000000 ∧ s = .int .i64 m ∧ i = .int .i64 f ∧ Aside0 (Cnt T m (sumF (fr.drop f) + sumS (slots.drop (t + 1)))) ∧ Aside0 (Below wr.heap.size wr wq)) (fun _ i _ => fr.length - (intOf i).toNat)
      case atStart => exact ⟨0, m + fr.length, Nat.zero_le _, by omega, by go_num, rfl, HQ2, ⟨Below.refl _ _⟩⟩
      case round =>
       clear HQ2 p2 hm2 hm
       obtain ⟨f, m, hf, hm, rfl, rfl, HQ, HX2⟩ := hrel
       have d1 := pw_cell_below HX2.out c1
       have d5 := pw_cell_below HX2.out h5
       by_cases hlt2 : f < fr.length ∧ m ≤ 16384
       ·obtain ⟨hlf2, hm2⟩ := hlt2
        have p3 : (f : Int) < (fr.length : Int) := by omega
        have p4 : (m : Int) ≤ 16384 := by omega
        obtain ⟨bd, A6, k6, rfl, h6, -⟩ := sl_at (Kd.C_below HC5.out HX2.out) hlf2
        have HD : Aside0 (sumF (fr.drop f) = (fr.getD f []).length + sumF (fr.drop (f + 1))) := ⟨sum_drop _ fr f [] hlf2⟩
        have hfl := HFR.out.2 _ (get_mem (d := []) hlf2)
        generalize fr.getD f [] = x at *
        have HQ2 : Aside0 (Cnt T (m + x.length) (sumF (fr.drop (f + 1)) + sumS (slots.drop (t + 1)))) := ⟨by have := HQ.out; have := HD.out; unfold Cnt at *; omega⟩
        clear HD HQ
        go_wp2_with (fail)
        go_roundw
        case rel => exact ⟨f + 1, m + x.length, by omega, by omega, by go_num, by go_num, HQ2, HX2⟩
        case measure => simp [intOf]; omega
       ·have HQ3 : Aside0 (Cnt T m (sumS (slots.drop (t + 1)))) := ⟨by
         have := HQ.out
         unfold Cnt at *
         by_cases e : f = fr.length
         ·rw [e, List.drop_length] at this
          have e0 : sumF [] = 0 := rfl
          omega
         ·omega⟩
        clear HQ
        rcases (show ¬ f < fr.length ∨ (f < fr.length ∧ ¬ m ≤ 16384) by omega) with e | ⟨e, e2⟩
        all_goals
         first | (have p3 : (f : Int) < (fr.length : Int) := (by omega); have p4 : ¬ (m : Int) ≤ 16384 := by omega) | have p3 : ¬ (f : Int) < (fr.length : Int) := by omega
         go_wp2_with (fail)
         go_roundw
         case rel => exact ⟨t + 1, m, by omega, hm, rfl, by go_num, HQ3, ⟨below_step HX.out HX2.out⟩⟩
         case measure => simp [intOf]; omega
     ·rcases (show ¬ t < slots.length ∨ (t < slots.length ∧ ¬ m ≤ 16384) by omega) with e | ⟨e, e2⟩
      ·have p1 : ¬ (t : Int) < (slots.length : Int) := by omega
       have hD : decide (T ≤ 16384) = decide (m ≤ 16384) := by
        have := HQ.out
        rw [show t = slots.length by omega, List.drop_length] at this
        have e0 : sumS [] = 0 := rfl
        unfold Cnt at this
        apply decide_eq_decide.2; omega
       have HD := Aside0.mk hD
       clear hD
       by_cases hm2 : m ≤ 16384
       ·have p2 : (m : Int) ≤ 16384 := by omega
        go_wp2_with (fail)
        go_ret
        exact ⟨by rw [HD.out, decide_eq_true hm2]; rfl, below_step HB.out HX.out⟩
       ·have p2 : ¬ (m : Int) ≤ 16384 := by omega
        go_wp2_with (fail)
        go_ret
        exact ⟨by rw [HD.out, decide_eq_false hm2]; rfl, below_step HB.out HX.out⟩
      ·have p1 : (t : Int) < (slots.length : Int) := by omega
       have p2 : ¬ (m : Int) ≤ 16384 := by omega
       have HD : Aside0 (decide (T ≤ 16384) = false) := ⟨decide_eq_false (by have := HQ.out; unfold Cnt at this; omega)⟩
       go_wp2_with (fail)
       go_ret
       exact ⟨by rw [HD.out]; rfl, below_step HB.out HX.out⟩
end Go.Proofs.YtihjjkoddphmiaaGreatDoor.img
namespace Go.Proofs.YtihjjkoddphmiaaGreatDoor.img
open Go.RowKit Go.Proofs.YtihjjkoddphmiaaGreatDoorW.PrintWords Go.Proofs.YtihjjkoddphmiaaGreatDoorW.PrintLast Go.Proofs.YtihjjkoddphmiaaGreatDoorW.PrintMore Go.Proofs.YtihjjkoddphmiaaGreatDoor.PImageApart
set_option linter.unusedVariables false
set_option linter.unusedSimpArgs false

theorem small_any {L : Lay} {g : Gr} (hrm : Roomy g) : ∃ r, (r = true → total g ≤ 16384) ∧ ∀ w, Rd w L g → Calls Tryz.prog 4 #[.agg (gcells L g).toArray] w fun e w' => e = .returned (.bool r) ∧ Below w.heap.size w w' := by
 exact ⟨decide (total g ≤ 16384), of_decide_eq_true, fun w h => small_hand L g hrm w h⟩
/-- No graph. -/
def gNo : Gr := ⟨[], [], [], [], [], 0⟩
def toldG : Res Gr → Gr
 | .ok g _ => g
 | .bad _ _ => gNo
def toldN : Res Gr → Int
 | .ok _ _ => 0
 | .bad q _ => q
def toldE : Res Gr → Int
 | .ok _ _ => 0
 | .bad _ c => c
theorem ReadPost.plain {w w' : World} {r : Res Gr} {e : Ending} (h : ReadPost w r e w') : Below w.heap.size w w' ∧ ∃ (A0 A1 A2 A3 A4 : Option Addr) (c0 c1 c2 c3 c4 : Nat), e = .returned (.tuple #[.agg #[.slice A0 (toldG r).objs.length c0, .slice A1 (toldG r).slots.length c1, .slice A2 (toldG r).handles.length c2, .slice A3 (toldG r).registry.length c3, .slice A4 (toldG r).queue.length c4, .int .u64 (toldG r).next], .int .i64 (toldN r), .int .i64 (toldE r)]) ∧ Got w w' (toldG r) (.slice A0 (toldG r).objs.length c0) (.slice A1 (toldG r).slots.length c1) (.slice A2 (toldG r).handles.length c2) (.slice A3 (toldG r).registry.length c3) (.slice A4 (toldG r).queue.length c4) := by
 obtain ⟨hb, h⟩ := h
 refine ⟨hb, ?_⟩
 cases r with
 | ok g q =>
  obtain ⟨v0, v1, v2, v3, v4, rfl, hg⟩ := h
  have hg0 := hg
  obtain ⟨r0, r1, r2, r3, r4⟩ := hg
  obtain ⟨A0, c0, rfl, -, -⟩ := Kd.R_reads r0
  obtain ⟨A1, c1, rfl, -, -⟩ := Kd.R_reads r1
  obtain ⟨A2, c2, rfl, -, -⟩ := Kd.R_reads r2
  obtain ⟨A3, c3, rfl, -, -⟩ := Kd.R_reads r3
  obtain ⟨A4, c4, rfl, -, -⟩ := Kd.R_reads r4
  exact ⟨A0, A1, A2, A3, A4, c0, c1, c2, c3, c4, rfl, hg0⟩
 | bad q c =>
  subst h
  exact ⟨none, none, none, none, none, 0, 0, 0, 0, 0, rfl, ⟨Kd.R_nil _ _ _ _ _, Kd.R_nil _ _ _ _ _, Kd.R_nil _ _ _ _ _, Kd.R_nil _ _ _ _ _, Kd.R_nil _ _ _ _ _⟩⟩
theorem Got.rd {w w' : World} {g : Gr} {A0 A1 A2 A3 A4 : Option Addr} {c0 c1 c2 c3 c4 : Nat} (h : Got w w' g (.slice A0 g.objs.length c0) (.slice A1 g.slots.length c1) (.slice A2 g.handles.length c2) (.slice A3 g.registry.length c3) (.slice A4 g.queue.length c4)) : Rd w' ⟨A0, A1, A2, A3, A4, c0, c1, c2, c3, c4⟩ g := by
 obtain ⟨_, _, e0, h0, C0⟩ := Kd.R_reads h.r0
 obtain ⟨_, _, e1, h1, C1⟩ := Kd.R_reads h.r1
 obtain ⟨_, _, e2, h2, C2⟩ := Kd.R_reads h.r2
 obtain ⟨_, _, e3, h3, C3⟩ := Kd.R_reads h.r3
 obtain ⟨_, _, e4, h4, C4⟩ := Kd.R_reads h.r4
 injection e0 with e0 _ e0'; injection e1 with e1 _ e1'; injection e2 with e2 _ e2'; injection e3 with e3 _ e3'; injection e4 with e4 _ e4'
 subst e0 e1 e2 e3 e4 e0' e1' e2' e3' e4'
 exact ⟨C0, C1, C2, C3, C4, h0, h1, h2, h3, h4⟩
theorem told_tame (bs : List Int) (hl : bs.length ≤ 1000000) : Tame (toldG (readR bs)) := by
 cases h : readR bs with
 | ok g q =>
  unfold readR at h
  obtain ⟨u, p, h1, h⟩ := bind_ok h
  obtain ⟨g0, p1, h2, h⟩ := bind_ok h
  obtain ⟨u3, p3, h3, h⟩ := bind_ok h
  split at h
  ·injection h with h4
   subst h4
   have e := h1
   unfold beginR at e
   exact (graph_fits h2).tame hl
  ·cases h
 | bad q c => exact ⟨⟨Nat.zero_le _, Nat.zero_le _, (fun fr h => by cases h), (fun fr h => by cases h), Nat.zero_le _, Nat.zero_le _, Nat.zero_le _⟩, fun o h => by cases h⟩
theorem outB_bytes (g : Gr) : Bytes (outB g) := by
 unfold outB
 split
 ·exact (body_bytes g).app (sb_bytes _)
 ·intro x hx; simp at hx
theorem Write_R (L : Lay) (g : Gr) (hn : Near g) (hw : Words g) (w : World) (hF : Fair w L g) (hT : Tabs w) :
  Calls Tryz.prog 11 #[.agg (gcells L g).toArray] w fun e w' => ∃ v, e = .returned (.tuple #[v, .int .i64 (outC g)]) ∧ (Kd.int .u8).R 5 w' w.heap.size (fun _ => True) v (outB g) ∧ Below w.heap.size w w' := by
 cases hok : okB g with
 | true =>
  have e1 : outB g = image g := if_pos hok
  have e2 : outC g = 0 := if_pos hok
  rw [e1, e2]
  exact Write_ok L g hn hw w hF.rd hT hok hF.h0 hF.h1 hF.h2 hF.h4
 | false =>
  have e1 : outB g = [] := if_neg (by rw [hok]; decide)
  have e2 : outC g = 164 := if_neg (by rw [hok]; decide)
  rw [e1, e2]
  refine (Write_bad L g hn w hF.rd hT hok).mono ?_
  rintro en w' ⟨rfl, hb⟩
  exact ⟨_, rfl, Kd.R_nil _ _ _ _ _, hb⟩
theorem same_self {A B : Option Addr} {c d : Nat} {l : List Int} {w : World} (hl : Bytes l) (h1 : Kd.C (Kd.int .u8) w A l.length l) (h2 : l.length ≤ c) (h3 : Kd.C (Kd.int .u8) w B l.length l) (h4 : l.length ≤ d) :
  Calls Tryz.prog 12 #[.slice A l.length c, .slice B l.length d] w fun e w' => e = .returned (.bool true) ∧ Below w.heap.size w w' := by
 refine (same_any hl hl h1 h2 h3 h4).mono ?_
 rintro e w' ⟨rfl, hb⟩
 exact ⟨by rw [decide_eq_true rfl], hb⟩
theorem Iv_nil {α : Type} (d : Kd α) (e : Nat) (w : World) {b n : Nat} (h : n ≤ w.heap.size) : Iv d e b n w (.slice none 0 0) [] n n := ⟨Nat.le_refl _, Nat.le_refl _, h, Rsp_nil _ _ _ _ _ _⟩
theorem ReadPostA.plain {w w' : World} {r : Res Gr} {e : Ending} (h : ReadPostA w r e w') : Below w.heap.size w w' ∧ ∃ (A0 A1 A2 A3 A4 : Option Addr) (c0 c1 c2 c3 c4 : Nat), e = .returned (.tuple #[.agg #[.slice A0 (toldG r).objs.length c0, .slice A1 (toldG r).slots.length c1, .slice A2 (toldG r).handles.length c2, .slice A3 (toldG r).registry.length c3, .slice A4 (toldG r).queue.length c4, .int .u64 (toldG r).next], .int .i64 (toldN r), .int .i64 (toldE r)]) ∧ GotA w w' (toldG r) (.slice A0 (toldG r).objs.length c0) (.slice A1 (toldG r).slots.length c1) (.slice A2 (toldG r).handles.length c2) (.slice A3 (toldG r).registry.length c3) (.slice A4 (toldG r).queue.length c4) := by
 obtain ⟨hb, h⟩ := h
 refine ⟨hb, ?_⟩
 cases r with
 | ok g q =>
  obtain ⟨v0, v1, v2, v3, v4, rfl, hg⟩ := h
  have hg0 := hg
  obtain ⟨⟨r0, r1, r2, r3, r4⟩, -⟩ := hg
  obtain ⟨A0, c0, rfl, -, -⟩ := Kd.R_reads r0
  obtain ⟨A1, c1, rfl, -, -⟩ := Kd.R_reads r1
  obtain ⟨A2, c2, rfl, -, -⟩ := Kd.R_reads r2
  obtain ⟨A3, c3, rfl, -, -⟩ := Kd.R_reads r3
  obtain ⟨A4, c4, rfl, -, -⟩ := Kd.R_reads r4
  exact ⟨A0, A1, A2, A3, A4, c0, c1, c2, c3, c4, rfl, hg0⟩
 | bad q c =>
  subst h
  exact ⟨none, none, none, none, none, 0, 0, 0, 0, 0, rfl, ⟨⟨Kd.R_nil _ _ _ _ _, Kd.R_nil _ _ _ _ _, Kd.R_nil _ _ _ _ _, Kd.R_nil _ _ _ _ _, Kd.R_nil _ _ _ _ _⟩, _, _, _, _, _, _, _, _, _, _, Iv_nil _ _ _ hb.size, Iv_nil _ _ _ hb.size, Iv_nil _ _ _ hb.size, Iv_nil _ _ _ hb.size, Iv_nil _ _ _ hb.size⟩⟩
theorem told_szs (bs : List Int) (hl : bs.length ≤ 8192) : bk.Szs 8192 (toldG (readR bs)) := by
 cases h : readR bs with
 | ok g q =>
  unfold readR at h
  obtain ⟨u, p, h1, h⟩ := bind_ok h
  obtain ⟨g0, p1, h2, h⟩ := bind_ok h
  obtain ⟨u3, p3, h3, h⟩ := bind_ok h
  split at h
  ·injection h with h4
   subst h4
   have hf := graph_fits h2
   have a1 := hf.objs; have a2 := hf.slots; have a3 := hf.handles; have a4 := hf.queue
   have a5 := finalsFrom_len g0.objs 0
   refine ⟨⟨by show g0.objs.length ≤ _; omega, fun x hx => by have := hf.obj x hx; omega⟩, ⟨by show g0.slots.length ≤ _; omega, fun x hx => ⟨by have := (hf.frames x hx).1; omega, fun y hy => by have := (hf.frames x hx).2 y hy; omega⟩⟩, by show g0.handles.length ≤ _; omega, ?_, by show g0.queue.length ≤ _; omega⟩
   show (finals g0.objs).length ≤ _
   unfold finals
   omega
  ·cases h
 | bad q c =>
  exact ⟨⟨by show 0 ≤ _; omega, fun x hx => by cases hx⟩, ⟨by show 0 ≤ _; omega, fun x hx => by cases hx⟩, by show 0 ≤ _; omega, by show 0 ≤ _; omega, by show 0 ≤ _; omega⟩
end Go.Proofs.YtihjjkoddphmiaaGreatDoor.img
namespace Go.Proofs.YtihjjkoddphmiaaGreatDoor.bk
open Go.RowKit Go.Proofs.YtihjjkoddphmiaaGreatDoorW.PrintWords Go.Proofs.YtihjjkoddphmiaaGreatDoorW.PrintLast Go.Proofs.YtihjjkoddphmiaaGreatDoorW.PrintMore Go.Proofs.YtihjjkoddphmiaaGreatDoor.PImageApart Go.Proofs.YtihjjkoddphmiaaGreatDoor.img
set_option linter.unusedVariables false
set_option linter.unusedSimpArgs false

theorem flatten_len (l : List (List Int)) : l.flatten.length = sumF l := by
 induction l with
 | nil => rfl
 | cons a r ih => rw [List.flatten_cons, List.length_append, ih]; simp [sumF]
theorem flat2_len (l : List (List (List Int))) : l.flatten.flatten.length ≤ sumS l := by
 induction l with
 | nil => simp [sumS]
 | cons a r ih =>
  rw [List.flatten_cons, List.flatten_append, List.length_append, flatten_len a]
  simp only [sumS, List.map_cons, List.sum_cons] at ih ⊢
  omega
theorem root_total (g : Gr) : (rootL g).length ≤ total g := by
 have := flat2_len g.slots
 simp only [rootL, List.length_append]
 unfold total
 omega
/-- One call that is asked for. -/
structure Ask1 where
 rd : Bool
 B : Option Addr
 cb : Nat
 bs : List Int
 L : Lay
 g : Gr
def acells (q : Ask1) : List Value := .bool q.rd :: .slice q.B q.bs.length q.cb :: gcells q.L q.g
structure AskAt (W : World) (ad : Addr) (q : Ask1) : Prop where
 c0 : W.cell? ad = some (.bool q.rd)
 cs : ∀ j u, 0 < j → (acells q)[j]? = some u → W.cell? ⟨ad.block, ad.off + j, none⟩ = some u
 bytes : Bytes q.bs
 lb : q.bs.length ≤ q.cb
 lm : q.bs.length ≤ 9223372036854775807
 row : Kd.C (Kd.int .u8) W q.B q.bs.length q.bs
 came : Came W q.L q.g

def KG : Nat := 134266890
/-- What an Ask may write: what lay there at its start, of the law's own, and what is new since. -/
def mi (b h1 h2 : Nat) : Nat → Prop := fun k => (b ≤ k ∧ k < h1) ∨ h2 ≤ k
def mo (b : Nat) : Nat → Prop := fun k => b ≤ k
structure Outr (w0 : World) (bk R : Nat) (wr : World) : Prop where
 bel : Below w0.heap.size w0 wr
 all : ∃ s V X, All (mo w0.heap.size) wr bk s V X R 0
structure Inn (b h1 : Nat) (w2 : World) (bk R : Nat) (wr : World) : Prop where
 fr : Fr (mi b h1 w2.heap.size) w2 wr
 all : ∃ s V X, All (mi b h1 w2.heap.size) wr bk s V X R 0
section
variable {w0 w w1 w2 w3 wa wr w' : World} {b h1 bk R : Nat}
theorem grown_of (h : Below w.heap.size w w') : w.grownBy w' none := ⟨h.os, h.tape, h.output, h.size, fun k hk _ => h.block k hk⟩
theorem Fr.of_below {m : Nat → Prop} (h : Below w.heap.size w w') : Fr m w w' := ⟨h.os, h.tape, h.output, Kept.of_below h m⟩
theorem Inn.start (h : Outr w0 bk R wa) (hb : Below wa.heap.size wa w2) : Inn w0.heap.size wa.heap.size w2 bk R w2 := by
 obtain ⟨s, V, X, ha⟩ := h.all
 exact ⟨Fr.refl _ _, s, V, X, ha.re (grown_of hb) (fun k h1 h2 => .inl ⟨h1, h2⟩) (fun k hk => .inr hk)⟩
theorem Inn.bel (h : Inn b h1 w2 bk R wr) (hb : b ≤ w2.heap.size) : Below b w2 wr := ⟨h.fr.os, h.fr.tape, h.fr.output, h.fr.kept.1, fun k hk => h.fr.kept.2 k (by omega) (fun e => by rcases e with e | e <;> omega)⟩
theorem Inn.out (h : Inn w0.heap.size h1 w2 bk R wr) (hb : Below w0.heap.size w0 w2) : Outr w0 bk R wr := by
 obtain ⟨s, V, X, ha⟩ := h.all
 have hs := hb.size
 refine ⟨hb.trans (h.bel hs), s, V, X, ha.re (grown_refl _ _) (fun k hk _ => ?_) (fun k hk => ?_)⟩
 ·rcases hk with hk | hk
  ·exact hk.1
  ·exact Nat.le_trans hs hk
 ·have := h.fr.kept.1
  show w0.heap.size ≤ k
  omega
theorem Inn.blk (h : Inn b h1 w2 bk R wr) {k : Nat} (hk : h1 ≤ k) (hl : k < w2.heap.size) : wr.heap[k]? = w2.heap[k]? := h.fr.kept.2 k hl (fun e => by rcases e with e | e <;> omega)
end
theorem Got.keep {S : Nat → Prop} {w w' w'' : World} {g : Gr} {v0 v1 v2 v3 v4 : Value} (h : Got w w' g v0 v1 v2 v3 v4) (hk : Kept w' w'' S) (hS : ∀ k, S k → ¬ (w.heap.size ≤ k ∧ k < w'.heap.size)) : Got w w'' g v0 v1 v2 v3 v4 :=
 ⟨Kd.R_mono (Kd.R_kept (Kd.R_bound h.r0) hk (fun k ho hs => hS k hs ⟨ho.2.1, ho.2.2.1⟩)) (fun _ _ => trivial), Kd.R_mono (Kd.R_kept (Kd.R_bound h.r1) hk (fun k ho hs => hS k hs ⟨ho.2.1, ho.2.2.1⟩)) (fun _ _ => trivial), Kd.R_mono (Kd.R_kept (Kd.R_bound h.r2) hk (fun k ho hs => hS k hs ⟨ho.2.1, ho.2.2.1⟩)) (fun _ _ => trivial), Kd.R_mono (Kd.R_kept (Kd.R_bound h.r3) hk (fun k ho hs => hS k hs ⟨ho.2.1, ho.2.2.1⟩)) (fun _ _ => trivial), Kd.R_mono (Kd.R_kept (Kd.R_bound h.r4) hk (fun k ho hs => hS k hs ⟨ho.2.1, ho.2.2.1⟩)) (fun _ _ => trivial)⟩
theorem GotA.keep {S : Nat → Prop} {w w' w'' : World} {g : Gr} {v0 v1 v2 v3 v4 : Value} (h : GotA w w' g v0 v1 v2 v3 v4) (hk : Kept w' w'' S) (hS : ∀ k, S k → k < w.heap.size) : GotA w w'' g v0 v1 v2 v3 v4 := by
 obtain ⟨l0, u0, l1, u1, l2, u2, l4, u4, l3, u3, i0, i1, i2, i4, i3⟩ := h.ap
 have b0 := i0.lo; have c0 := i0.lu; have b1 := i1.lo; have c1 := i1.lu; have b2 := i2.lo; have c2 := i2.lu; have b4 := i4.lo; have c4 := i4.lu; have b3 := i3.lo; have c3 := i3.lu
 exact ⟨Got.keep h.got hk (fun k hs hh => by have := hS k hs; omega), l0, u0, l1, u1, l2, u2, l4, u4, l3, u3, i0.kept hk (fun k hs => by have := hS k hs; omega), i1.kept hk (fun k hs => by have := hS k hs; omega), i2.kept hk (fun k hs => by have := hS k hs; omega), i4.kept hk (fun k hs => by have := hS k hs; omega), i3.kept hk (fun k hs => by have := hS k hs; omega)⟩
section
variable {w0 w w1 w2 w3 wa wr w' : World} {b h1 bk R : Nat}
/-- Behind Read: its graph goes into the Book. -/
theorem Inn.graph (h : Inn b h1 w2 bk R wr) (hb : Below wr.heap.size wr w') (hs : wr.heap.size ≤ w3.heap.size) {g : Gr} (A0 A1 A2 A3 A4 : Option Addr) (n0 n1 n2 n3 n4 c0 c1 c2 c3 c4 : Nat) (nx : Int) (hg : GotA w3 w' g (.slice A0 n0 c0) (.slice A1 n1 c1) (.slice A2 n2 c2) (.slice A3 n3 c3) (.slice A4 n4 c4)) (hz : Szs 8192 g) (hR : R + KG ≤ 1099511627776) (mk : Int) :
  Calls Tryz.prog 9 #[.pointer (some ⟨bk, 0, none⟩), .agg #[.slice A0 n0 c0, .slice A1 n1 c1, .slice A2 n2 c2, .slice A3 n3 c3, .slice A4 n4 c4, .int .u64 nx], .int .i64 mk] w' fun e w'' => e = .returned (.tuple #[]) ∧ Inn b h1 w2 bk (R + KG) w'' := by
 obtain ⟨s, V, X, ha⟩ := h.all
 obtain ⟨s', T, ha', hG⟩ := hand_graph (ha.still (grown_of hb)) (fun k hk => ha.free k (Nat.le_trans hs hk)) hg hz (by omega)
 refine (book_graph ha' A0 A1 A2 A3 A4 n0 n1 n2 n3 n4 c0 c1 c2 c3 c4 nx hG mk (by unfold KG at hR; omega)).mono ?_
 rintro e w'' ⟨rfl, hf, s2, V2, X2, h2⟩
 exact ⟨rfl, (h.fr.then_ (Fr.of_below hb)).then_ hf, s2, V2, X2, h2⟩
/-- Behind Write: its bytes go into the Book. -/
theorem Inn.bytes (h : Inn b h1 w2 bk R wr) (hb : Below wr.heap.size wr w') (hs : wr.heap.size ≤ w3.heap.size) {v : Value} {xs : List Int} (hv : (Kd.int .u8).R 5 w' w3.heap.size (fun _ => True) v xs) (hl : xs.length ≤ 1073741824) (hR : R + KG ≤ 1099511627776) (mk : Int) :
  Calls Tryz.prog 13 #[.pointer (some ⟨bk, 0, none⟩), v, .int .i64 mk] w' fun e w'' => e = .returned (.tuple #[]) ∧ Inn b h1 w2 bk (R + KG) w'' := by
 obtain ⟨s, V, X, ha⟩ := h.all
 obtain ⟨s', ha', hG, -⟩ := st_int (m := mi b h1 w2.heap.size) (q := 0) rfl rfl (fun s x => ⟨x, rfl⟩) hv hl s (ha.still (grown_of hb)) (fun k hk => by
  obtain ⟨-, inner, ho, -⟩ := hv
  exact ha.free k (Nat.le_trans hs (ho.lt k hk).1))
 refine (keep_bytes ha' v hG mk (by unfold KG at hR; omega)).mono ?_
 rintro e w'' ⟨rfl, hf, s2, V2, X2, h2⟩
 exact ⟨rfl, (h.fr.then_ (Fr.of_below hb)).then_ hf, s2, V2, X2, h2.room (by unfold KG; omega) hR⟩
theorem Inn.hold (h : Inn b h1 w2 bk R wr) : Calls Tryz.prog 14 #[.pointer (some ⟨bk, 0, none⟩)] wr fun e w' => e = .returned (.bool true) ∧ Inn b h1 w2 bk R w' := by
 obtain ⟨s, V, X, ha⟩ := h.all
 refine (book_holds ha).mono ?_
 rintro e w' ⟨rfl, hg⟩
 exact ⟨rfl, h.fr.then_ (Fr.grown hg (by simp)), s, V, X, ha.still hg⟩
theorem row_keep {S : Nat → Prop} {base : Nat} {v : Value} {xs : List Int} (h : (Kd.int .u8).R 5 w base (fun _ => True) v xs) (hk : Kept w w' S) (hS : ∀ k, S k → ¬ (base ≤ k ∧ k < w.heap.size)) : (Kd.int .u8).R 5 w' base (fun _ => True) v xs :=
 Kd.R_mono (Kd.R_kept (Kd.R_bound h) hk (fun k ho hs => hS k hs ⟨ho.2.1, ho.2.2.1⟩)) (fun _ _ => trivial)
/-- What was lent to Read. -/
structure Sto (wr w3 w5 : World) (A : Option Addr) (n : Nat) (wx : World) : Prop where
 bel : Below wr.heap.size wr wx
 gr : w5.grownBy wx (A.map (·.block))
 cell : ∀ ad, A = some ad → ∃ g cur, ad = ⟨g, 0, none⟩ ∧ wr.heap.size ≤ g ∧ g < w3.heap.size ∧ wx.heap[g]? = some (.cells cur 5 (0, 0)) ∧ n ≤ cur.size ∧ ∀ j, j < n → ∃ x, cur[j]? = some (.int .u8 x)
 none_ : A = none → n = 0
theorem lent_sto {xs : List Int} {A : Option Addr} {c : Nat} (h : (Kd.int .u8).R 5 w3 wr.heap.size (fun _ => True) (.slice A xs.length c) xs) (hb : Below wr.heap.size wr w3) (h5 : Below w3.heap.size w3 w') : Sto wr w3 w' A xs.length w' := by
 refine ⟨hb.trans (h5.mono hb.size), grown_refl _ _, fun ad e => ?_, fun e => ?_⟩
 ·obtain ⟨-, inner, ho, hr⟩ := h
  subst e
  have hlen : inner.length = xs.length := by have := ho.1; rw [show (Kd.int .u8).sz = 1 from rfl] at this; omega
  rcases ho.2 with ⟨e1, -⟩ | ⟨g, cap, cur, e1, h1, h2, h3, h4, h5', h6⟩
  ·cases e1
  ·injection e1 with e1 e2 e3
   injection e1 with e1
   subst e1
   have hsz : (Kd.int .u8).sz = 1 := rfl
   rw [hsz] at h5' h6
   refine ⟨g, cur, rfl, h1, blk_lt h2, blk_below h2 h5, by omega, fun j hj => ?_⟩
   have hj2 := hr.2 j _ (List.getElem?_eq_getElem hj)
   rw [hsz, Nat.mul_one] at hj2
   have h7 := drop_at (show _ = [Value.int .u8 xs[j]] from hj2) (j := 0) (by simp)
   rw [Nat.add_zero] at h7
   refine ⟨xs[j], ?_⟩
   have h8 : (cur.toList.take (xs.length * 1))[j]? = some (.int .u8 xs[j]) := by rw [h6]; exact h7
   rw [List.getElem?_take_of_lt (by omega)] at h8
   simpa using h8
 ·subst e
  obtain ⟨-, inner, ho, hr⟩ := h
  rcases ho.2 with ⟨-, e2⟩ | ⟨g, cap, cur, e1, -⟩
  ·exact e2
  ·cases e1
theorem Sto.put {w5 wx : World} {g n : Nat} (h : Sto wr w3 w5 (some ⟨g, 0, none⟩) n wx) {j : Nat} (x : Int) : Sto wr w3 w5 (some ⟨g, 0, none⟩) n (wx.setCell ⟨g, j, none⟩ (.int .u8 x)) := by
 obtain ⟨g', cur, e, h1, h2, h3, h4, h5⟩ := h.cell _ rfl
 cases e
 refine ⟨h.bel.setCell (p := ⟨g, j, none⟩) h1 _, ⟨h.gr.os, h.gr.tape, h.gr.output, by simpa [World.setCell] using h.gr.size, fun k hk hn => ?_⟩, fun ad e => ?_, h.none_⟩
 ·rw [Below.heap_setCell wx _ _ k (by simpa using fun e => hn (by rw [e]; rfl))]
  exact h.gr.block k hk hn
 ·cases e
  refine ⟨g, _, rfl, h1, h2, blk_set h3 j _, by simpa using h4, fun i hi => ?_⟩
  by_cases e : j = i
  ·subst e
   exact ⟨x, by rw [Array.getElem?_setIfInBounds]; simp; omega⟩
  ·obtain ⟨y, hy⟩ := h5 i hi
   exact ⟨y, by rw [Array.getElem?_setIfInBounds, if_neg e]; exact hy⟩
theorem Sto.kept {w5 wx : World} {A : Option Addr} {n : Nat} (h : Sto wr w3 w5 A n wx) : Kept w5 wx (fun k => A.map (·.block) = some k) := ⟨h.gr.size, fun k hk hn => h.gr.block k hk (fun e => hn e.symm)⟩
theorem Sto.lt {w5 wx : World} {A : Option Addr} {n : Nat} (h : Sto wr w3 w5 A n wx) : ∀ k, A.map (·.block) = some k → k < w3.heap.size := fun k hk => by
 cases A with
 | none => cases hk
 | some ad =>
  obtain ⟨g, cur, e, -, h2, -⟩ := h.cell ad rfl
  subst e
  obtain rfl : g = k := by simpa using hk
  exact h2
end
end Go.Proofs.YtihjjkoddphmiaaGreatDoor.bk
