-- Printed by the kit's print.sh, then cut by wip/gen/shake.py: what no text of this claim names is left out.
import Derived.Test.YtihjjkoddphmiaaDoorLPImageRoundx0
import Derived.Test.YtihjjkoddphmiaaDoorLRefCheckF
import Derived.Test.YtihjjkoddphmiaaDoorLRefInts
namespace Go.Proofs.YtihjjkoddphmiaaDoor.PImageRound
open Go.RowKit Go.Proofs.YtihjjkoddphmiaaDoorW.PrintWords Go.Proofs.YtihjjkoddphmiaaDoorW.PrintLast Go.Proofs.YtihjjkoddphmiaaDoorW.PrintMore
attribute [local go_sem] max2_int min2_int max_two min_two max_three min_three max_four min_four   -- for this text's walks alone
set_option linter.unusedVariables false
set_option linter.unusedSimpArgs false

mutual
def middenref16_Write.l0 : Nat → List Int → Int → Int → List (S62) → List (List (List Int)) → List Int → List Int → List Int → Int → Option (List Int × Int)
 | 0, _, _, _, _, _, _, _, _, _ => none
 | k + 1, x4, x5, x6, x345000, x345001, x345002, x345003, x345004, x345005 => if x6 < (x345000.length : Int) then (if 0 ≤ x6 then ((middenref16_number.f k x4 (IntKind.u64.wrap (((rd_T62 x345000 x6).f0) - x5))).bind fun t357 => ((middenref16_number.f k t357 (IntKind.u64.wrap ((rd_T62 x345000 x6).f1))).bind fun t360 => ((middenref16_number.f k t360 (IntKind.u64.wrap ((rd_T62 x345000 x6).f2))).bind fun t363 => ((middenref16_ints.f k t363 ((rd_T62 x345000 x6).f3) 0).bind fun t366 => ((middenref16_number.f k t366 (IntKind.u64.wrap ((((rd_T62 x345000 x6).f4).length : Int)))).bind fun t369 => (middenref16_Write.l1 k t369 ((rd_T62 x345000 x6).f0) x6 0 x345000 x345001 x345002 x345003 x345004 x345005 ((rd_T62 x345000 x6).f0) ((rd_T62 x345000 x6).f1) ((rd_T62 x345000 x6).f2) ((rd_T62 x345000 x6).f3) ((rd_T62 x345000 x6).f4))))))) else (none)) else ((middenref16_number.f k x4 (IntKind.u64.wrap ((x345001.length : Int)))).bind fun t376 => (middenref16_Write.l2 k t376 0 x345000 x345001 x345002 x345003 x345004 x345005))
def middenref16_Write.l1 : Nat → List Int → Int → Int → Int → List (S62) → List (List (List Int)) → List Int → List Int → List Int → Int → Int → Int → Int → List Int → List Int → Option (List Int × Int)
 | 0, _, _, _, _, _, _, _, _, _, _, _, _, _, _, _ => none
 | k + 1, x4, x5, x6, x8, x345000, x345001, x345002, x345003, x345004, x345005, x357000, x357001, x357002, x357003, x357004 => if x8 < (x357004.length : Int) then (if 0 ≤ x8 then ((middenref16_number.f k x4 (rd x357004 x8)).bind fun t373 => (middenref16_Write.l1 k t373 x5 x6 (wrap64 (x8 + 1)) x345000 x345001 x345002 x345003 x345004 x345005 x357000 x357001 x357002 x357003 x357004)) else (none)) else (middenref16_Write.l0 k x4 x5 (wrap64 (x6 + 1)) x345000 x345001 x345002 x345003 x345004 x345005)
def middenref16_Write.l2 : Nat → List Int → Int → List (S62) → List (List (List Int)) → List Int → List Int → List Int → Int → Option (List Int × Int)
 | 0, _, _, _, _, _, _, _, _ => none
 | k + 1, x4, x9, x345000, x345001, x345002, x345003, x345004, x345005 => if x9 < (x345001.length : Int) then (if 0 ≤ x9 then ((middenref16_number.f k x4 (IntKind.u64.wrap (((rd_L5 x345001 x9).length : Int)))).bind fun t380 => (middenref16_Write.l3 k t380 x9 0 x345000 x345001 x345002 x345003 x345004 x345005)) else (none)) else ((middenref16_ints.f k x4 x345002 1).bind fun t389 => ((middenref16_ints.f k t389 x345004 0).bind fun t392 => ((middenref16_Sum.f k t392).bind fun t395 => (middenref16_Write.l4 k t392 t395 0))))
def middenref16_Write.l3 : Nat → List Int → Int → Int → List (S62) → List (List (List Int)) → List Int → List Int → List Int → Int → Option (List Int × Int)
 | 0, _, _, _, _, _, _, _, _, _ => none
 | k + 1, x4, x9, x10, x345000, x345001, x345002, x345003, x345004, x345005 => if 0 ≤ x9 then (if x9 < (x345001.length : Int) then (if x10 < ((rd_L5 x345001 x9).length : Int) then (if 0 ≤ x10 then ((middenref16_ints.f k x4 (rd_L2 (rd_L5 x345001 x9) x10) 0).bind fun t386 => (middenref16_Write.l3 k t386 x9 (wrap64 (x10 + 1)) x345000 x345001 x345002 x345003 x345004 x345005)) else (none)) else (middenref16_Write.l2 k x4 (wrap64 (x9 + 1)) x345000 x345001 x345002 x345003 x345004 x345005)) else (none)) else (none)
def middenref16_Write.l4 : Nat → List Int → Int → Int → Option (List Int × Int)
 | 0, _, _, _ => none
 | k + 1, x4, x11, x12 => if x12 < 4 then (if x4.length < 140737488355328 then (middenref16_Write.l4 k (x4 ++ [(Int.tmod x11 256) % 256]) ((Int.tdiv x11 256) % 4294967296) (wrap64 (x12 + 1))) else (none)) else (some (x4, 0))
end
def middenref16_Write.f (k : Nat) (l0_0 : List (S62)) (l0_1 : List (List (List Int))) (l0_2 : List Int) (l0_3 : List Int) (l0_4 : List Int) (a0_5 : Int) : Option (List Int × Int) := (middenref16_Check.f k l0_0 l0_1 l0_2 l0_3 l0_4 a0_5).bind fun t345 => (if t345 = 0 then ((middenref16_number.f k (([77, 68, 73, 49] : List Int)) a0_5).bind fun t349 => ((middenref16_number.f k t349 (IntKind.u64.wrap ((l0_0.length : Int)))).bind fun t352 => (middenref16_Write.l0 k t352 0 0 l0_0 l0_1 l0_2 l0_3 l0_4 a0_5))) else (some (([] : List Int), 164)))
theorem middenref16_Write.mono_l : ∀ k, (∀ y0 y1 y2 y3 y4 y5 y6 y7 y8, LeO (middenref16_Write.l0 k y0 y1 y2 y3 y4 y5 y6 y7 y8) (middenref16_Write.l0 (k + 1) y0 y1 y2 y3 y4 y5 y6 y7 y8)) ∧ (∀ y0 y1 y2 y3 y4 y5 y6 y7 y8 y9 y10 y11 y12 y13 y14, LeO (middenref16_Write.l1 k y0 y1 y2 y3 y4 y5 y6 y7 y8 y9 y10 y11 y12 y13 y14) (middenref16_Write.l1 (k + 1) y0 y1 y2 y3 y4 y5 y6 y7 y8 y9 y10 y11 y12 y13 y14)) ∧ (∀ y0 y1 y2 y3 y4 y5 y6 y7, LeO (middenref16_Write.l2 k y0 y1 y2 y3 y4 y5 y6 y7) (middenref16_Write.l2 (k + 1) y0 y1 y2 y3 y4 y5 y6 y7)) ∧ (∀ y0 y1 y2 y3 y4 y5 y6 y7 y8, LeO (middenref16_Write.l3 k y0 y1 y2 y3 y4 y5 y6 y7 y8) (middenref16_Write.l3 (k + 1) y0 y1 y2 y3 y4 y5 y6 y7 y8)) ∧ (∀ y0 y1 y2, LeO (middenref16_Write.l4 k y0 y1 y2) (middenref16_Write.l4 (k + 1) y0 y1 y2))
 | 0 => ⟨fun _ _ _ _ _ _ _ _ _ r h => by simp [middenref16_Write.l0] at h, fun _ _ _ _ _ _ _ _ _ _ _ _ _ _ _ r h => by simp [middenref16_Write.l1] at h, fun _ _ _ _ _ _ _ _ r h => by simp [middenref16_Write.l2] at h, fun _ _ _ _ _ _ _ _ _ r h => by simp [middenref16_Write.l3] at h, fun _ _ _ r h => by simp [middenref16_Write.l4] at h⟩
 | k + 1 => by
  obtain ⟨ih0, ih1, ih2, ih3, ih4⟩ := middenref16_Write.mono_l k
  refine ⟨?_, ?_, ?_, ?_, ?_⟩
  ·intro y0 y1 y2 y3 y4 y5 y6 y7 y8
   unfold middenref16_Write.l0
   repeat' first
   | (with_reducible exact ih0 _ _ _ _ _ _ _ _ _)
   | (with_reducible exact ih1 _ _ _ _ _ _ _ _ _ _ _ _ _ _ _)
   | (with_reducible exact ih2 _ _ _ _ _ _ _ _)
   | (with_reducible exact ih3 _ _ _ _ _ _ _ _ _)
   | (with_reducible exact ih4 _ _ _)
   | (with_reducible exact middenref16_Check.mono _ _ _ _ _ _ _)
   | (with_reducible exact middenref16_Sum.mono _ _)
   | (with_reducible exact middenref16_ints.mono _ _ _ _)
   | (with_reducible exact middenref16_number.mono _ _ _)
   | (with_reducible exact LeO.refl _)
   | (with_reducible exact LeO.none _)
   | (with_reducible refine LeO.ite ?_ ?_)
   | (with_reducible refine LeO.bind ?_ (fun _ => ?_))
   | exact ih0 _ _ _ _ _ _ _ _ _
   | exact ih1 _ _ _ _ _ _ _ _ _ _ _ _ _ _ _
   | exact ih2 _ _ _ _ _ _ _ _
   | exact ih3 _ _ _ _ _ _ _ _ _
   | exact ih4 _ _ _
   | exact middenref16_Check.mono _ _ _ _ _ _ _
   | exact middenref16_Sum.mono _ _
   | exact middenref16_ints.mono _ _ _ _
   | exact middenref16_number.mono _ _ _
   | exact LeO.none _
   | refine LeO.ite ?_ ?_
   | refine LeO.bind ?_ (fun _ => ?_)
  ·intro y0 y1 y2 y3 y4 y5 y6 y7 y8 y9 y10 y11 y12 y13 y14
   unfold middenref16_Write.l1
   repeat' first
   | (with_reducible exact ih0 _ _ _ _ _ _ _ _ _)
   | (with_reducible exact ih1 _ _ _ _ _ _ _ _ _ _ _ _ _ _ _)
   | (with_reducible exact ih2 _ _ _ _ _ _ _ _)
   | (with_reducible exact ih3 _ _ _ _ _ _ _ _ _)
   | (with_reducible exact ih4 _ _ _)
   | (with_reducible exact middenref16_Check.mono _ _ _ _ _ _ _)
   | (with_reducible exact middenref16_Sum.mono _ _)
   | (with_reducible exact middenref16_ints.mono _ _ _ _)
   | (with_reducible exact middenref16_number.mono _ _ _)
   | (with_reducible exact LeO.refl _)
   | (with_reducible exact LeO.none _)
   | (with_reducible refine LeO.ite ?_ ?_)
   | (with_reducible refine LeO.bind ?_ (fun _ => ?_))
   | exact ih0 _ _ _ _ _ _ _ _ _
   | exact ih1 _ _ _ _ _ _ _ _ _ _ _ _ _ _ _
   | exact ih2 _ _ _ _ _ _ _ _
   | exact ih3 _ _ _ _ _ _ _ _ _
   | exact ih4 _ _ _
   | exact middenref16_Check.mono _ _ _ _ _ _ _
   | exact middenref16_Sum.mono _ _
   | exact middenref16_ints.mono _ _ _ _
   | exact middenref16_number.mono _ _ _
   | exact LeO.none _
   | refine LeO.ite ?_ ?_
   | refine LeO.bind ?_ (fun _ => ?_)
  ·intro y0 y1 y2 y3 y4 y5 y6 y7
   unfold middenref16_Write.l2
   repeat' first
   | (with_reducible exact ih0 _ _ _ _ _ _ _ _ _)
   | (with_reducible exact ih1 _ _ _ _ _ _ _ _ _ _ _ _ _ _ _)
   | (with_reducible exact ih2 _ _ _ _ _ _ _ _)
   | (with_reducible exact ih3 _ _ _ _ _ _ _ _ _)
   | (with_reducible exact ih4 _ _ _)
   | (with_reducible exact middenref16_Check.mono _ _ _ _ _ _ _)
   | (with_reducible exact middenref16_Sum.mono _ _)
   | (with_reducible exact middenref16_ints.mono _ _ _ _)
   | (with_reducible exact middenref16_number.mono _ _ _)
   | (with_reducible exact LeO.refl _)
   | (with_reducible exact LeO.none _)
   | (with_reducible refine LeO.ite ?_ ?_)
   | (with_reducible refine LeO.bind ?_ (fun _ => ?_))
   | exact ih0 _ _ _ _ _ _ _ _ _
   | exact ih1 _ _ _ _ _ _ _ _ _ _ _ _ _ _ _
   | exact ih2 _ _ _ _ _ _ _ _
   | exact ih3 _ _ _ _ _ _ _ _ _
   | exact ih4 _ _ _
   | exact middenref16_Check.mono _ _ _ _ _ _ _
   | exact middenref16_Sum.mono _ _
   | exact middenref16_ints.mono _ _ _ _
   | exact middenref16_number.mono _ _ _
   | exact LeO.none _
   | refine LeO.ite ?_ ?_
   | refine LeO.bind ?_ (fun _ => ?_)
  ·intro y0 y1 y2 y3 y4 y5 y6 y7 y8
   unfold middenref16_Write.l3
   repeat' first
   | (with_reducible exact ih0 _ _ _ _ _ _ _ _ _)
   | (with_reducible exact ih1 _ _ _ _ _ _ _ _ _ _ _ _ _ _ _)
   | (with_reducible exact ih2 _ _ _ _ _ _ _ _)
   | (with_reducible exact ih3 _ _ _ _ _ _ _ _ _)
   | (with_reducible exact ih4 _ _ _)
   | (with_reducible exact middenref16_Check.mono _ _ _ _ _ _ _)
   | (with_reducible exact middenref16_Sum.mono _ _)
   | (with_reducible exact middenref16_ints.mono _ _ _ _)
   | (with_reducible exact middenref16_number.mono _ _ _)
   | (with_reducible exact LeO.refl _)
   | (with_reducible exact LeO.none _)
   | (with_reducible refine LeO.ite ?_ ?_)
   | (with_reducible refine LeO.bind ?_ (fun _ => ?_))
   | exact ih0 _ _ _ _ _ _ _ _ _
   | exact ih1 _ _ _ _ _ _ _ _ _ _ _ _ _ _ _
   | exact ih2 _ _ _ _ _ _ _ _
   | exact ih3 _ _ _ _ _ _ _ _ _
   | exact ih4 _ _ _
   | exact middenref16_Check.mono _ _ _ _ _ _ _
   | exact middenref16_Sum.mono _ _
   | exact middenref16_ints.mono _ _ _ _
   | exact middenref16_number.mono _ _ _
   | exact LeO.none _
   | refine LeO.ite ?_ ?_
   | refine LeO.bind ?_ (fun _ => ?_)
  ·intro y0 y1 y2
   unfold middenref16_Write.l4
   repeat' first
   | (with_reducible exact ih0 _ _ _ _ _ _ _ _ _)
   | (with_reducible exact ih1 _ _ _ _ _ _ _ _ _ _ _ _ _ _ _)
   | (with_reducible exact ih2 _ _ _ _ _ _ _ _)
   | (with_reducible exact ih3 _ _ _ _ _ _ _ _ _)
   | (with_reducible exact ih4 _ _ _)
   | (with_reducible exact middenref16_Check.mono _ _ _ _ _ _ _)
   | (with_reducible exact middenref16_Sum.mono _ _)
   | (with_reducible exact middenref16_ints.mono _ _ _ _)
   | (with_reducible exact middenref16_number.mono _ _ _)
   | (with_reducible exact LeO.refl _)
   | (with_reducible exact LeO.none _)
   | (with_reducible refine LeO.ite ?_ ?_)
   | (with_reducible refine LeO.bind ?_ (fun _ => ?_))
   | exact ih0 _ _ _ _ _ _ _ _ _
   | exact ih1 _ _ _ _ _ _ _ _ _ _ _ _ _ _ _
   | exact ih2 _ _ _ _ _ _ _ _
   | exact ih3 _ _ _ _ _ _ _ _ _
   | exact ih4 _ _ _
   | exact middenref16_Check.mono _ _ _ _ _ _ _
   | exact middenref16_Sum.mono _ _
   | exact middenref16_ints.mono _ _ _ _
   | exact middenref16_number.mono _ _ _
   | exact LeO.none _
   | refine LeO.ite ?_ ?_
   | refine LeO.bind ?_ (fun _ => ?_)
theorem middenref16_Write.mono : ∀ a0 a1 a2 a3 a4 a5 k, LeO (middenref16_Write.f k a0 a1 a2 a3 a4 a5) (middenref16_Write.f (k + 1) a0 a1 a2 a3 a4 a5) := by
 intro a0 a1 a2 a3 a4 a5 k
 obtain ⟨ih0, ih1, ih2, ih3, ih4⟩ := middenref16_Write.mono_l k
 unfold middenref16_Write.f
 repeat' first
   | (with_reducible exact ih0 _ _ _ _ _ _ _ _ _)
   | (with_reducible exact ih1 _ _ _ _ _ _ _ _ _ _ _ _ _ _ _)
   | (with_reducible exact ih2 _ _ _ _ _ _ _ _)
   | (with_reducible exact ih3 _ _ _ _ _ _ _ _ _)
   | (with_reducible exact ih4 _ _ _)
   | (with_reducible exact middenref16_Check.mono _ _ _ _ _ _ _)
   | (with_reducible exact middenref16_Sum.mono _ _)
   | (with_reducible exact middenref16_ints.mono _ _ _ _)
   | (with_reducible exact middenref16_number.mono _ _ _)
   | (with_reducible exact LeO.refl _)
   | (with_reducible exact LeO.none _)
   | (with_reducible refine LeO.ite ?_ ?_)
   | (with_reducible refine LeO.bind ?_ (fun _ => ?_))
   | exact ih0 _ _ _ _ _ _ _ _ _
   | exact ih1 _ _ _ _ _ _ _ _ _ _ _ _ _ _ _
   | exact ih2 _ _ _ _ _ _ _ _
   | exact ih3 _ _ _ _ _ _ _ _ _
   | exact ih4 _ _ _
   | exact middenref16_Check.mono _ _ _ _ _ _ _
   | exact middenref16_Sum.mono _ _
   | exact middenref16_ints.mono _ _ _ _
   | exact middenref16_number.mono _ _ _
   | exact LeO.none _
   | refine LeO.ite ?_ ?_
   | refine LeO.bind ?_ (fun _ => ?_)
set_option maxHeartbeats 8000000 in
set_option maxRecDepth 100000 in
theorem middenref16_Write.calls (k : Nat) (A0_0 : Option Addr) (c0_0 : Nat) (l0_0 : List (S62)) (A0_1 : Option Addr) (c0_1 : Nat) (l0_1 : List (List (List Int))) (A0_2 : Option Addr) (c0_2 : Nat) (l0_2 : List Int) (A0_3 : Option Addr) (c0_3 : Nat) (l0_3 : List Int) (A0_4 : Option Addr) (c0_4 : Nat) (l0_4 : List Int) (a0_5 : Int) (r1 : List Int) (r2 : Int) (w : World) (hr0_0 : Kd.C k62 w A0_0 l0_0.length l0_0) (hc0_0 : l0_0.length ≤ c0_0) (hr0_1 : Kd.C (Kd.slice 24 (Kd.slice 3 (Kd.int .i64))) w A0_1 l0_1.length l0_1) (hc0_1 : l0_1.length ≤ c0_1) (hr0_2 : Kd.C (Kd.int .i64) w A0_2 l0_2.length l0_2) (hc0_2 : l0_2.length ≤ c0_2) (hr0_3 : Kd.C (Kd.int .i64) w A0_3 l0_3.length l0_3) (hc0_3 : l0_3.length ≤ c0_3) (hr0_4 : Kd.C (Kd.int .i64) w A0_4 l0_4.length l0_4) (hc0_4 : l0_4.length ≤ c0_4) (h : middenref16_Write.f k l0_0 l0_1 l0_2 l0_3 l0_4 a0_5 = some (r1, r2)) :
  Calls Tryd.prog 17 #[.agg #[.slice A0_0 l0_0.length c0_0, .slice A0_1 l0_1.length c0_1, .slice A0_2 l0_2.length c0_2, .slice A0_3 l0_3.length c0_3, .slice A0_4 l0_4.length c0_4, .int .u64 a0_5]] w fun e w' => ∃ v0_ : Value, e = .returned (.tuple #[v0_, .int .i64 r2]) ∧ Kd.R (Kd.int .u8) 5 w' w.heap.size (fun _ => True) v0_ r1 ∧ Below w.heap.size w w' := by
 have hu27 := Tryd.underlying27
 have hu62 := Tryd.underlying62
 have HR0_0 := Aside0.mk hr0_0
 have HC0_0 := Aside0.mk hc0_0
 clear hr0_0 hc0_0
 have HR0_1 := Aside0.mk hr0_1
 have HC0_1 := Aside0.mk hc0_1
 clear hr0_1 hc0_1
 have HR0_2 := Aside0.mk hr0_2
 have HC0_2 := Aside0.mk hc0_2
 clear hr0_2 hc0_2
 have HR0_3 := Aside0.mk hr0_3
 have HC0_3 := Aside0.mk hc0_3
 clear hr0_3 hc0_3
 have HR0_4 := Aside0.mk hr0_4
 have HC0_4 := Aside0.mk hc0_4
 clear hr0_4 hc0_4
 have HB := Aside0.mk (Below.refl w.heap.size w)
 have H : ((middenref16_Check.f k l0_0 l0_1 l0_2 l0_3 l0_4 a0_5).bind fun t345 => (if t345 = 0 then ((middenref16_number.f k (([77, 68, 73, 49] : List Int)) a0_5).bind fun t349 => ((middenref16_number.f k t349 (IntKind.u64.wrap ((l0_0.length : Int)))).bind fun t352 => (middenref16_Write.l0 k t352 0 0 l0_0 l0_1 l0_2 l0_3 l0_4 a0_5))) else (some (([] : List Int), 164)))) = some (r1, r2) := h
 clear h
 replace H := Option.bind_eq_some_iff.mp H
 obtain ⟨t345, A20, H⟩ := H
 replace H : (if t345 = 0 then ((middenref16_number.f k (([77, 68, 73, 49] : List Int)) a0_5).bind fun t349 => ((middenref16_number.f k t349 (IntKind.u64.wrap ((l0_0.length : Int)))).bind fun t352 => (middenref16_Write.l0 k t352 0 0 l0_0 l0_1 l0_2 l0_3 l0_4 a0_5))) else (some (([] : List Int), 164))) = some (r1, r2) := H
 have A2 := Aside0.mk A20
 clear A20
 by_cases c3 : t345 = 0
 ·rw [if_pos c3] at H
  have c3b0 : (t345 == 0) = true := beq_iff_eq.mpr c3
  have c3b1 : (t345 != 0) = false := bne_eq_false_iff_eq.mpr c3
  clear c3
  obtain ⟨y346, hy346⟩ : ∃ y_ : List Int, y_ = (([77, 68, 73, 49] : List Int)) := ⟨_, rfl⟩
  replace H : ((middenref16_number.f k y346 a0_5).bind fun t349 => ((middenref16_number.f k t349 (IntKind.u64.wrap ((l0_0.length : Int)))).bind fun t352 => (middenref16_Write.l0 k t352 0 0 l0_0 l0_1 l0_2 l0_3 l0_4 a0_5))) = some (r1, r2) := by first | (rw [hy346]; with_reducible exact H) | (have H2_ := (Option.bind_some _ _).symm.trans H; rw [hy346]; with_reducible exact H2_) | (have H2_ := (Option.bind_some _ _).symm.trans H; with_reducible exact H2_) | with_reducible exact H | (rw [hy346]; exact H) | exact H
  have Ny346 := Aside0.mk hy346
  clear hy346
  replace H := Option.bind_eq_some_iff.mp H
  obtain ⟨t349, A40, H⟩ := H
  replace H : ((middenref16_number.f k t349 (IntKind.u64.wrap ((l0_0.length : Int)))).bind fun t352 => (middenref16_Write.l0 k t352 0 0 l0_0 l0_1 l0_2 l0_3 l0_4 a0_5)) = some (r1, r2) := H
  have A4 := Aside0.mk A40
  clear A40
  replace H := Option.bind_eq_some_iff.mp H
  obtain ⟨t352, A50, H⟩ := H
  replace H : (middenref16_Write.l0 k t352 0 0 l0_0 l0_1 l0_2 l0_3 l0_4 a0_5) = some (r1, r2) := H
  have A5 := Aside0.mk A50
  clear A50
  have H' := Aside0.mk H
  clear H
  go_enter Tryd.func17, Tryd.ntmps17
  go_wp2_with (first | ((with_reducible refine gate_dst (N := 1) rfl ?_); refine box_event ?hg (N := 1) ?hd (cs := #[.slice A0_0 l0_0.length c0_0, .slice A0_1 l0_1.length c0_1, .slice A0_2 l0_2.length c0_2, .slice A0_3 l0_3.length c0_3, .slice A0_4 l0_4.length c0_4, .int .u64 a0_5]) (t := 27) ?hr ?_; (case hd => rfl); (case hg => rfl); (case hr => first | (go_simp; done) | (go_simp; rfl)); intro gb344 hg w6 hbox hb; have n0_ := Aside0.mk (below_step (by repeat (first | (with_reducible first | exact HB.out | apply below_alloc | apply pw_below_drewN | apply below_drew1) | exact HB.out)) hb); have n1_ := Aside0.mk (hbox); have n2_ := Aside0.mk ((by rw [hg]; exact (below_size (by repeat (first | (with_reducible first | exact HB.out | apply below_alloc | apply pw_below_drewN | apply below_drew1) | exact HB.out))) : w.heap.size ≤ gb344)); have n3_ := Aside0.mk ((by rw [hg]; exact (below_size (by repeat (first | (with_reducible first | exact HB.out | apply below_alloc | apply pw_below_drewN | apply below_drew1) | exact HB.out))) : w.heap.size ≤ gb344)); clear HB; have HB := n0_; have BK344 := n1_; have GW344 := n2_; have GE344 := n3_; clear n0_ n1_ n2_ n3_; clear hb hbox hg; have hcz7_0 : w6.cell? ⟨gb344, 0, none⟩ = some (.slice A0_0 l0_0.length c0_0) := (blk_cell BK344.out 0).trans rfl; have hcz7_1 : w6.cell? ⟨gb344, 1, none⟩ = some (.slice A0_1 l0_1.length c0_1) := (blk_cell BK344.out 1).trans rfl; have hcz7_2 : w6.cell? ⟨gb344, 2, none⟩ = some (.slice A0_2 l0_2.length c0_2) := (blk_cell BK344.out 2).trans rfl; have hcz7_3 : w6.cell? ⟨gb344, 3, none⟩ = some (.slice A0_3 l0_3.length c0_3) := (blk_cell BK344.out 3).trans rfl; have hcz7_4 : w6.cell? ⟨gb344, 4, none⟩ = some (.slice A0_4 l0_4.length c0_4) := (blk_cell BK344.out 4).trans rfl; have hcz7_5 : w6.cell? ⟨gb344, 5, none⟩ = some (.int .u64 a0_5) := (blk_cell BK344.out 5).trans rfl; have hfz7_0 := blk_frozen BK344.out 0; have hfz7_1 := blk_frozen BK344.out 1; have hfz7_2 := blk_frozen BK344.out 2; have hfz7_3 := blk_frozen BK344.out 3; have hfz7_4 := blk_frozen BK344.out 4; have hfz7_5 := blk_frozen BK344.out 5) | ((with_reducible refine gate_callee (f := 13) rfl ?_); refine goesL_ (some 14) rfl rfl Tryd.func13 (by kernel_rfl) rfl #[.agg #[.slice A0_0 l0_0.length c0_0, .slice A0_1 l0_1.length c0_1, .slice A0_2 l0_2.length c0_2, .slice A0_3 l0_3.length c0_3, .slice A0_4 l0_4.length c0_4, .int .u64 a0_5]] rfl (by (try simp only [List.map_toArray, List.map_cons, List.map_nil]); first | done | rfl | (simp only [List.length_drop, List.length_take]; rfl)) ?_; (with_reducible refine (middenref16_Check.calls k _ _ l0_0 _ _ l0_1 _ _ l0_2 _ _ l0_3 _ _ l0_4 a0_5 t345 _ ?side1 ?side2 ?side3 ?side4 ?side5 ?side6 ?side7 ?side8 ?side9 ?side10 A2.out).mono ?_); (case side1 => repeat (first | exact (Kd.C_below HR0_0.out HB.out) | (with_reducible refine Kd.C_alloc ?_ _) | (with_reducible refine Kd.C_drewN ?_ _) | (with_reducible refine Kd.C_drew ?_))); (case side2 => exact HC0_0.out); (case side3 => repeat (first | exact (Kd.C_below HR0_1.out HB.out) | (with_reducible refine Kd.C_alloc ?_ _) | (with_reducible refine Kd.C_drewN ?_ _) | (with_reducible refine Kd.C_drew ?_))); (case side4 => exact HC0_1.out); (case side5 => repeat (first | exact (Kd.C_below HR0_2.out HB.out) | (with_reducible refine Kd.C_alloc ?_ _) | (with_reducible refine Kd.C_drewN ?_ _) | (with_reducible refine Kd.C_drew ?_))); (case side6 => exact HC0_2.out); (case side7 => repeat (first | exact (Kd.C_below HR0_3.out HB.out) | (with_reducible refine Kd.C_alloc ?_ _) | (with_reducible refine Kd.C_drewN ?_ _) | (with_reducible refine Kd.C_drew ?_))); (case side8 => exact HC0_3.out); (case side9 => repeat (first | exact (Kd.C_below HR0_4.out HB.out) | (with_reducible refine Kd.C_alloc ?_ _) | (with_reducible refine Kd.C_drewN ?_ _) | (with_reducible refine Kd.C_drew ?_))); (case side10 => exact HC0_4.out); rintro e w8 ⟨rfl, hb⟩; refine ⟨_, rfl, ?_⟩; have n0_ := Aside0.mk (blk_below (g := gb344) (o := .cells #[.slice A0_0 l0_0.length c0_0, .slice A0_1 l0_1.length c0_1, .slice A0_2 l0_2.length c0_2, .slice A0_3 l0_3.length c0_3, .slice A0_4 l0_4.length c0_4, .int .u64 a0_5] 27 (0, 0)) (by (with_reducible repeat (first | refine blk_drewN ?_ _ | refine blk_drew ?_ | refine blk_alloc ?_ _)); exact BK344.out) hb); have n1_ := Aside0.mk (below_step (by repeat (first | (with_reducible first | exact HB.out | apply below_alloc | apply pw_below_drewN | apply below_drew1 | refine below_set ?_ GE344.out) | exact HB.out)) hb); clear BK344; clear HB; have BK344 := n0_; have HB := n1_; clear n0_ n1_; (try clear hb); (try clear hb2); (try clear hk); (try clear hi)) | ((with_reducible refine gate_dst (N := 16) rfl ?_); refine Kd.R_lit (Kd.int .u8) _ 5 ?hg (N := 16) ?hd (xs := ([77, 68, 73, 49] : List Int)) (inner := [.int .u8 77, .int .u8 68, .int .u8 73, .int .u8 49]) (ok := fun _ => True) (okp := fun _ => True) ?hr ?hp (fun _ hk => hk) trivial (Below.refl _ _) (Nat.le_refl _) (by simp) ?_; (case hd => rfl); (case hg => rfl); (case hr => first | (go_simp; done) | (go_simp; rfl)); (case hp => exact (Reps.one (show Kd.M (Kd.int .u8) _ _ _ 77 [.int .u8 77] from rfl) (Reps.one (show Kd.M (Kd.int .u8) _ _ _ 68 [.int .u8 68] from rfl) (Reps.one (show Kd.M (Kd.int .u8) _ _ _ 73 [.int .u8 73] from rfl) (Reps.one (show Kd.M (Kd.int .u8) _ _ _ 49 [.int .u8 49] from rfl) (Reps.none _ _)))))); intro v347 w9 ho10 hb hg_ hnew_; clear hg_ hnew_; (first | rw [← Ny346.out] at ho10 | (simp only [Int.reduceToNat] at ho10; rw [← Ny346.out] at ho10)); have n0_ := Aside0.mk (Kd.R_lower ho10 (below_size (by repeat (first | (with_reducible first | exact HB.out | apply below_alloc | apply pw_below_drewN | apply below_drew1 | refine below_set ?_ GE344.out) | exact HB.out)))); have n1_ := Aside0.mk (blk_below (g := gb344) (o := .cells #[.slice A0_0 l0_0.length c0_0, .slice A0_1 l0_1.length c0_1, .slice A0_2 l0_2.length c0_2, .slice A0_3 l0_3.length c0_3, .slice A0_4 l0_4.length c0_4, .int .u64 a0_5] 27 (0, 0)) (by (with_reducible repeat (first | refine blk_drewN ?_ _ | refine blk_drew ?_ | refine blk_alloc ?_ _)); exact BK344.out) hb); have n2_ := Aside0.mk (below_step (by repeat (first | (with_reducible first | exact HB.out | apply below_alloc | apply pw_below_drewN | apply below_drew1 | refine below_set ?_ GE344.out) | exact HB.out)) hb); clear BK344; clear HB; have HO348 := n0_; have BK344 := n1_; have HB := n2_; clear n0_ n1_ n2_; clear hb ho10; have hcz11_0 : w9.cell? ⟨gb344, 0, none⟩ = some (.slice A0_0 l0_0.length c0_0) := (blk_cell BK344.out 0).trans rfl; have hcz11_1 : w9.cell? ⟨gb344, 1, none⟩ = some (.slice A0_1 l0_1.length c0_1) := (blk_cell BK344.out 1).trans rfl; have hcz11_2 : w9.cell? ⟨gb344, 2, none⟩ = some (.slice A0_2 l0_2.length c0_2) := (blk_cell BK344.out 2).trans rfl; have hcz11_3 : w9.cell? ⟨gb344, 3, none⟩ = some (.slice A0_3 l0_3.length c0_3) := (blk_cell BK344.out 3).trans rfl; have hcz11_4 : w9.cell? ⟨gb344, 4, none⟩ = some (.slice A0_4 l0_4.length c0_4) := (blk_cell BK344.out 4).trans rfl; have hcz11_5 : w9.cell? ⟨gb344, 5, none⟩ = some (.int .u64 a0_5) := (blk_cell BK344.out 5).trans rfl; have hfz11_0 := blk_frozen BK344.out 0; have hfz11_1 := blk_frozen BK344.out 1; have hfz11_2 := blk_frozen BK344.out 2; have hfz11_3 := blk_frozen BK344.out 3; have hfz11_4 := blk_frozen BK344.out 4; have hfz11_5 := blk_frozen BK344.out 5; obtain ⟨Ao12, co12, eo12⟩ := Kd.R_slice HO348.out; subst eo12) | ((with_reducible refine gate_callee (f := 44) rfl ?_); refine goesL_ (some 20) rfl rfl Tryd.func44 (by kernel_rfl) rfl #[.slice Ao12 y346.length co12, .int .u64 a0_5] rfl (by (try simp only [List.map_toArray, List.map_cons, List.map_nil]); first | done | rfl | (simp only [List.length_drop, List.length_take]; rfl)) ?_; (with_reducible refine (middenref16_number.calls k (fun k_ => some k_ = (.slice Ao12 y346.length co12 : Value).ownBlock) (.slice Ao12 y346.length co12) y346 a0_5 t349 w _ ?side1 ?side2 A4.out).mono ?_); (case side1 => repeat (first | (with_reducible first | exact HB.out | apply below_alloc | apply pw_below_drewN | apply below_drew1 | refine below_set ?_ GE344.out) | exact HB.out)); (case side2 => exact Kd.R_tight rfl HO348.out); rintro e w13 ⟨v350, rfl, ho0, hb, hkp⟩; refine ⟨_, rfl, ?_⟩; have n0_ := Aside0.mk (blk_kept (by (with_reducible repeat (first | refine blk_drewN ?_ _ | refine blk_drew ?_ | refine blk_alloc ?_ _)); exact BK344.out) hkp (fun hs_ => (fun e_ => (Kd.R_ne HO348.out BK344.out (by decide)) e_) hs_)); have n1_ := Aside0.mk (Kd.R_mono (ok' := fun k_ => True) ho0 (fun k_ hk_ => trivial)); have n2_ := Aside0.mk (hb); clear BK344; clear HB; clear HO348; have BK344 := n0_; have HO351 := n1_; have HB := n2_; clear n0_ n1_ n2_; (try clear hb); (try clear hkp); (try clear ho0); have hcz14_0 : w13.cell? ⟨gb344, 0, none⟩ = some (.slice A0_0 l0_0.length c0_0) := (blk_cell BK344.out 0).trans rfl; have hcz14_1 : w13.cell? ⟨gb344, 1, none⟩ = some (.slice A0_1 l0_1.length c0_1) := (blk_cell BK344.out 1).trans rfl; have hcz14_2 : w13.cell? ⟨gb344, 2, none⟩ = some (.slice A0_2 l0_2.length c0_2) := (blk_cell BK344.out 2).trans rfl; have hcz14_3 : w13.cell? ⟨gb344, 3, none⟩ = some (.slice A0_3 l0_3.length c0_3) := (blk_cell BK344.out 3).trans rfl; have hcz14_4 : w13.cell? ⟨gb344, 4, none⟩ = some (.slice A0_4 l0_4.length c0_4) := (blk_cell BK344.out 4).trans rfl; have hcz14_5 : w13.cell? ⟨gb344, 5, none⟩ = some (.int .u64 a0_5) := (blk_cell BK344.out 5).trans rfl; have hfz14_0 := blk_frozen BK344.out 0; have hfz14_1 := blk_frozen BK344.out 1; have hfz14_2 := blk_frozen BK344.out 2; have hfz14_3 := blk_frozen BK344.out 3; have hfz14_4 := blk_frozen BK344.out 4; have hfz14_5 := blk_frozen BK344.out 5; obtain ⟨Ao15, co15, eo15⟩ := Kd.R_slice HO351.out; subst eo15) | ((with_reducible refine gate_callee (f := 44) rfl ?_); refine goesL_ (some 26) rfl rfl Tryd.func44 (by kernel_rfl) rfl #[.slice Ao15 t349.length co15, .int .u64 (IntKind.u64.wrap ((l0_0.length : Int)))] rfl (by (try simp only [List.map_toArray, List.map_cons, List.map_nil]); first | done | rfl | (simp only [List.length_drop, List.length_take]; rfl)) ?_; (with_reducible refine (middenref16_number.calls k (fun k_ => some k_ = (.slice Ao15 t349.length co15 : Value).ownBlock) (.slice Ao15 t349.length co15) t349 (IntKind.u64.wrap ((l0_0.length : Int))) t352 w _ ?side1 ?side2 A5.out).mono ?_); (case side1 => repeat (first | (with_reducible first | exact HB.out | apply below_alloc | apply pw_below_drewN | apply below_drew1 | refine below_set ?_ GE344.out) | exact HB.out)); (case side2 => exact Kd.R_tight rfl HO351.out); rintro e w16 ⟨v353, rfl, ho0, hb, hkp⟩; refine ⟨_, rfl, ?_⟩; have n0_ := Aside0.mk (blk_kept (by (with_reducible repeat (first | refine blk_drewN ?_ _ | refine blk_drew ?_ | refine blk_alloc ?_ _)); exact BK344.out) hkp (fun hs_ => (fun e_ => (Kd.R_ne HO351.out BK344.out (by decide)) e_) hs_)); have n1_ := Aside0.mk (Kd.R_mono (ok' := fun k_ => True) ho0 (fun k_ hk_ => trivial)); have n2_ := Aside0.mk (hb); clear BK344; clear HB; clear HO351; have BK344 := n0_; have HO354 := n1_; have HB := n2_; clear n0_ n1_ n2_; (try clear hb); (try clear hkp); (try clear ho0)))
  go_loopg [4, 5, 6] k (fun kq v4 v5 v6 w' => ∃ (x4_1 : List Int) (x5_1 : Int) (x6_1 : Int), v5 = .int .u64 x5_1 ∧ v6 = .int .i64 x6_1 ∧ Aside0 (middenref16_Write.l0 kq x4_1 x5_1 x6_1 l0_0 l0_1 l0_2 l0_3 l0_4 a0_5 = some (r1, r2)) ∧ Aside0 (kq ≤ k) ∧ Aside0 (Kd.R (Kd.int .u8) 5 w' w.heap.size (fun _ => True) v4 x4_1) ∧ Aside0 (w'.heap[gb344]? = some (.cells #[(.slice A0_0 l0_0.length c0_0), (.slice A0_1 l0_1.length c0_1), (.slice A0_2 l0_2.length c0_2), (.slice A0_3 l0_3.length c0_3), (.slice A0_4 l0_4.length c0_4), .int .u64 a0_5] 27 (0, 0))) ∧ Aside0 (Below w.heap.size w w'))
  case atStart => exact ⟨(t352), (0), (0), (by first | rfl | (simp; done) | (simp [*]; done)), (by first | rfl | (simp; done) | (simp [*]; done)), H', ⟨Nat.le_refl _⟩, ⟨by (with_reducible repeat (first | apply Kd.R_alloc | apply Kd.R_drewN | apply Kd.R_drew)); exact HO354.out⟩, ⟨by (with_reducible repeat (first | refine blk_drewN ?_ _ | refine blk_drew ?_ | refine blk_alloc ?_ _)); exact BK344.out⟩, ⟨by repeat (first | (with_reducible first | exact HB.out | apply below_alloc | apply pw_below_drewN | apply below_drew1 | refine below_set ?_ GE344.out) | exact HB.out)⟩⟩
  case round =>
   clear H'
   try clear c1
   try clear p2
   try clear c3
   try clear c3b0
   try clear c3b1
   try clear c4
   try clear c13
   try clear hcz11_0
   try clear hcz11_1
   try clear hcz11_2
   try clear hcz11_3
   try clear hcz11_4
   try clear hcz11_5
   try clear hcz14_0
   try clear hcz14_1
   try clear hcz14_2
   try clear hcz14_3
   try clear hcz14_4
   try clear hcz14_5
   try clear hcz7_0
   try clear hcz7_1
   try clear hcz7_2
   try clear hcz7_3
   try clear hcz7_4
   try clear hcz7_5
   try clear hfz11_0
   try clear hfz11_1
   try clear hfz11_2
   try clear hfz11_3
   try clear hfz11_4
   try clear hfz11_5
   try clear hfz14_0
   try clear hfz14_1
   try clear hfz14_2
   try clear hfz14_3
   try clear hfz14_4
   try clear hfz14_5
   try clear hfz7_0
   try clear hfz7_1
   try clear hfz7_2
   try clear hfz7_3
   try clear hfz7_4
   try clear hfz7_5
   obtain ⟨x4_1, x5_1, x6_1, rfl, rfl, HA, HK1, HO_4, BK344, HB⟩ := hrel
   cases gk with
   | zero => exact absurd HA.out (by simp [middenref16_Write.l0])
   | succ k1 =>
    have H := HA.out
    clear HA
    simp only [middenref16_Write.l0] at H
    by_cases c17 : x6_1 < (l0_0.length : Int)
    ·rw [if_pos c17] at H
     have c17b0 : decide (x6_1 < (l0_0.length : Int)) = true := decide_eq_true c17
     clear c17
     by_cases c18 : 0 ≤ x6_1
     ·rw [if_pos c18] at H
      have c18b0 : decide (0 ≤ x6_1) = true := decide_eq_true c18
      clear c18
      replace H := Option.bind_eq_some_iff.mp H
      obtain ⟨t357, A190, H⟩ := H
      replace H : ((middenref16_number.f k1 t357 (IntKind.u64.wrap ((rd_T62 l0_0 x6_1).f1))).bind fun t360 => ((middenref16_number.f k1 t360 (IntKind.u64.wrap ((rd_T62 l0_0 x6_1).f2))).bind fun t363 => ((middenref16_ints.f k1 t363 ((rd_T62 l0_0 x6_1).f3) 0).bind fun t366 => ((middenref16_number.f k1 t366 (IntKind.u64.wrap ((((rd_T62 l0_0 x6_1).f4).length : Int)))).bind fun t369 => (middenref16_Write.l1 k1 t369 ((rd_T62 l0_0 x6_1).f0) x6_1 0 l0_0 l0_1 l0_2 l0_3 l0_4 a0_5 ((rd_T62 l0_0 x6_1).f0) ((rd_T62 l0_0 x6_1).f1) ((rd_T62 l0_0 x6_1).f2) ((rd_T62 l0_0 x6_1).f3) ((rd_T62 l0_0 x6_1).f4)))))) = some (r1, r2) := H
      have A19 := Aside0.mk A190
      clear A190
      replace H := Option.bind_eq_some_iff.mp H
      obtain ⟨t360, A200, H⟩ := H
      replace H : ((middenref16_number.f k1 t360 (IntKind.u64.wrap ((rd_T62 l0_0 x6_1).f2))).bind fun t363 => ((middenref16_ints.f k1 t363 ((rd_T62 l0_0 x6_1).f3) 0).bind fun t366 => ((middenref16_number.f k1 t366 (IntKind.u64.wrap ((((rd_T62 l0_0 x6_1).f4).length : Int)))).bind fun t369 => (middenref16_Write.l1 k1 t369 ((rd_T62 l0_0 x6_1).f0) x6_1 0 l0_0 l0_1 l0_2 l0_3 l0_4 a0_5 ((rd_T62 l0_0 x6_1).f0) ((rd_T62 l0_0 x6_1).f1) ((rd_T62 l0_0 x6_1).f2) ((rd_T62 l0_0 x6_1).f3) ((rd_T62 l0_0 x6_1).f4))))) = some (r1, r2) := H
      have A20 := Aside0.mk A200
      clear A200
      replace H := Option.bind_eq_some_iff.mp H
      obtain ⟨t363, A210, H⟩ := H
      replace H : ((middenref16_ints.f k1 t363 ((rd_T62 l0_0 x6_1).f3) 0).bind fun t366 => ((middenref16_number.f k1 t366 (IntKind.u64.wrap ((((rd_T62 l0_0 x6_1).f4).length : Int)))).bind fun t369 => (middenref16_Write.l1 k1 t369 ((rd_T62 l0_0 x6_1).f0) x6_1 0 l0_0 l0_1 l0_2 l0_3 l0_4 a0_5 ((rd_T62 l0_0 x6_1).f0) ((rd_T62 l0_0 x6_1).f1) ((rd_T62 l0_0 x6_1).f2) ((rd_T62 l0_0 x6_1).f3) ((rd_T62 l0_0 x6_1).f4)))) = some (r1, r2) := H
      have A21 := Aside0.mk A210
      clear A210
      replace H := Option.bind_eq_some_iff.mp H
      obtain ⟨t366, A220, H⟩ := H
      replace H : ((middenref16_number.f k1 t366 (IntKind.u64.wrap ((((rd_T62 l0_0 x6_1).f4).length : Int)))).bind fun t369 => (middenref16_Write.l1 k1 t369 ((rd_T62 l0_0 x6_1).f0) x6_1 0 l0_0 l0_1 l0_2 l0_3 l0_4 a0_5 ((rd_T62 l0_0 x6_1).f0) ((rd_T62 l0_0 x6_1).f1) ((rd_T62 l0_0 x6_1).f2) ((rd_T62 l0_0 x6_1).f3) ((rd_T62 l0_0 x6_1).f4))) = some (r1, r2) := H
      have A22 := Aside0.mk A220
      clear A220
      replace H := Option.bind_eq_some_iff.mp H
      obtain ⟨t369, A230, H⟩ := H
      replace H : (middenref16_Write.l1 k1 t369 ((rd_T62 l0_0 x6_1).f0) x6_1 0 l0_0 l0_1 l0_2 l0_3 l0_4 a0_5 ((rd_T62 l0_0 x6_1).f0) ((rd_T62 l0_0 x6_1).f1) ((rd_T62 l0_0 x6_1).f2) ((rd_T62 l0_0 x6_1).f3) ((rd_T62 l0_0 x6_1).f4)) = some (r1, r2) := H
      have A23 := Aside0.mk A230
      clear A230
      have H' := Aside0.mk H
      clear H
      have hcz24_0 : wr.cell? ⟨gb344, 0, none⟩ = some (.slice A0_0 l0_0.length c0_0) := (blk_cell BK344.out 0).trans rfl
      have hcz24_1 : wr.cell? ⟨gb344, 1, none⟩ = some (.slice A0_1 l0_1.length c0_1) := (blk_cell BK344.out 1).trans rfl
      have hcz24_2 : wr.cell? ⟨gb344, 2, none⟩ = some (.slice A0_2 l0_2.length c0_2) := (blk_cell BK344.out 2).trans rfl
      have hcz24_3 : wr.cell? ⟨gb344, 3, none⟩ = some (.slice A0_3 l0_3.length c0_3) := (blk_cell BK344.out 3).trans rfl
      have hcz24_4 : wr.cell? ⟨gb344, 4, none⟩ = some (.slice A0_4 l0_4.length c0_4) := (blk_cell BK344.out 4).trans rfl
      have hcz24_5 : wr.cell? ⟨gb344, 5, none⟩ = some (.int .u64 a0_5) := (blk_cell BK344.out 5).trans rfl
      have hfz24_0 := blk_frozen BK344.out 0
      have hfz24_1 := blk_frozen BK344.out 1
      have hfz24_2 := blk_frozen BK344.out 2
      have hfz24_3 := blk_frozen BK344.out 3
      have hfz24_4 := blk_frozen BK344.out 4
      have hfz24_5 := blk_frozen BK344.out 5
      have p355 : 0 ≤ (x6_1 : Int) := of_decide_eq_true (by first | (with_reducible assumption) | assumption)
      have q355 : x6_1 < (l0_0.length : Int) := of_decide_eq_true (by first | (with_reducible assumption) | assumption)
      obtain ⟨ad355, A355_3, c355_3, A355_4, c355_4, e355, hx355_0, hx355_1, hx355_2, hx355_3, hx355_4, hl355_3, hi355_3, hl355_4, hi355_4⟩ := at_T62 HR0_0.out x6_1 p355 q355
      cases e355
      replace hx355_0 := (HB.out.cell (World.block_lt_of_cell? w _ hx355_0)).trans hx355_0
      replace hx355_1 := (HB.out.cell (World.block_lt_of_cell? w _ hx355_1)).trans hx355_1
      replace hx355_2 := (HB.out.cell (World.block_lt_of_cell? w _ hx355_2)).trans hx355_2
      replace hx355_3 := (HB.out.cell (World.block_lt_of_cell? w _ hx355_3)).trans hx355_3
      replace hx355_4 := (HB.out.cell (World.block_lt_of_cell? w _ hx355_4)).trans hx355_4
      have HR355_3 := Aside0.mk hi355_3
      have HC355_3 := Aside0.mk hl355_3
      clear hi355_3 hl355_3
      have HR355_4 := Aside0.mk hi355_4
      have HC355_4 := Aside0.mk hl355_4
      clear hi355_4 hl355_4
      replace p355 := eq_true p355
      replace q355 := eq_true q355
      go_wp2_with (first | ((with_reducible refine gate_dst (N := 7) rfl ?_); refine box_event ?hg (N := 7) ?hd (cs := #[.int .u64 0, .int .i64 0, .int .i64 0, .slice none 0 0, .slice none 0 0]) (t := 62) ?hr ?_; (case hd => rfl); (case hg => rfl); (case hr => first | (go_simp; done) | (go_simp; rfl)); intro gb356 hg w25 hbox hb; have n0_ := Aside0.mk (Kd.R_below (by (with_reducible repeat (first | apply Kd.R_alloc | apply Kd.R_drewN | apply Kd.R_drew)); exact HO_4.out) hb); have n1_ := Aside0.mk (blk_below (g := gb344) (o := .cells #[.slice (some ad355) l0_0.length c0_0, .slice A0_1 l0_1.length c0_1, .slice A0_2 l0_2.length c0_2, .slice A0_3 l0_3.length c0_3, .slice A0_4 l0_4.length c0_4, .int .u64 a0_5] 27 (0, 0)) (by (with_reducible repeat (first | refine blk_drewN ?_ _ | refine blk_drew ?_ | refine blk_alloc ?_ _)); exact BK344.out) hb); have n2_ := Aside0.mk (below_step (by repeat (first | (with_reducible first | exact HB.out | apply below_alloc | apply pw_below_drewN | apply below_drew1 | refine below_set ?_ GE344.out) | exact HB.out)) hb); have n3_ := Aside0.mk (hbox); have n4_ := Aside0.mk ((by rw [hg]; exact (below_size (by repeat (first | (with_reducible first | exact HB.out | apply below_alloc | apply pw_below_drewN | apply below_drew1 | refine below_set ?_ GE344.out) | exact HB.out))) : w.heap.size ≤ gb356)); have n5_ := Aside0.mk ((by rw [hg]; exact (below_size (by repeat (first | (with_reducible first | exact HB.out | apply below_alloc | apply pw_below_drewN | apply below_drew1 | refine below_set ?_ GE344.out) | exact HB.out))) : w.heap.size ≤ gb356)); have n6_ := Aside0.mk ((by rw [hg]; exact Nat.ne_of_lt (blk_lt (g := gb344) (o := .cells #[.slice (some ad355) l0_0.length c0_0, .slice A0_1 l0_1.length c0_1, .slice A0_2 l0_2.length c0_2, .slice A0_3 l0_3.length c0_3, .slice A0_4 l0_4.length c0_4, .int .u64 a0_5] 27 (0, 0)) (by (with_reducible repeat (first | refine blk_drewN ?_ _ | refine blk_drew ?_ | refine blk_alloc ?_ _)); exact BK344.out)) : gb344 ≠ gb356)); have n7_ := Aside0.mk ((by rw [hg]; exact Nat.ne_of_gt (blk_lt (g := gb344) (o := .cells #[.slice (some ad355) l0_0.length c0_0, .slice A0_1 l0_1.length c0_1, .slice A0_2 l0_2.length c0_2, .slice A0_3 l0_3.length c0_3, .slice A0_4 l0_4.length c0_4, .int .u64 a0_5] 27 (0, 0)) (by (with_reducible repeat (first | refine blk_drewN ?_ _ | refine blk_drew ?_ | refine blk_alloc ?_ _)); exact BK344.out)) : gb356 ≠ gb344)); clear HO_4; clear BK344; clear HB; have HO_4 := n0_; have BK344 := n1_; have HB := n2_; have BK356 := n3_; have GW356 := n4_; have GE356 := n5_; have NB344_356 := n6_; have NB356_344 := n7_; clear n0_ n1_ n2_ n3_ n4_ n5_ n6_ n7_; clear hb hbox hg; have hnb26 := NB356_344.out; have hnc26 := NB344_356.out; have hcz27_0 : w25.cell? ⟨gb356, 0, none⟩ = some (.int .u64 0) := (blk_cell BK356.out 0).trans rfl; have hcz27_1 : w25.cell? ⟨gb356, 1, none⟩ = some (.int .i64 0) := (blk_cell BK356.out 1).trans rfl; have hcz27_2 : w25.cell? ⟨gb356, 2, none⟩ = some (.int .i64 0) := (blk_cell BK356.out 2).trans rfl; have hcz27_3 : w25.cell? ⟨gb356, 3, none⟩ = some (.slice none 0 0) := (blk_cell BK356.out 3).trans rfl; have hcz27_4 : w25.cell? ⟨gb356, 4, none⟩ = some (.slice none 0 0) := (blk_cell BK356.out 4).trans rfl; have hfz27_0 := blk_frozen BK356.out 0; have hfz27_1 := blk_frozen BK356.out 1; have hfz27_2 := blk_frozen BK356.out 2; have hfz27_3 := blk_frozen BK356.out 3; have hfz27_4 := blk_frozen BK356.out 4) | ((with_reducible refine gate_store (t := 62) (p := 7) rfl ?_); refine store_event (t := 62) (p := 7) (v := ?vo_w28) (w1 := (((((w25.setCell ⟨gb356, 0, none⟩ (.int .u64 ((rd_T62 l0_0 x6_1).f0))).setCell ⟨gb356, 1, none⟩ (.int .i64 ((rd_T62 l0_0 x6_1).f1))).setCell ⟨gb356, 2, none⟩ (.int .i64 ((rd_T62 l0_0 x6_1).f2))).setCell ⟨gb356, 3, none⟩ (.slice A355_3 ((rd_T62 l0_0 x6_1).f3).length c355_3)).setCell ⟨gb356, 4, none⟩ (.slice A355_4 ((rd_T62 l0_0 x6_1).f4).length c355_4))) ?hg ?ho ?hn ?hr ?_; (case ho => rfl); (case hg => rfl); (case hn => rfl); (case hr => first | (go_simp; done) | (go_simp; rfl)); intro w28 hw; have n0_ : Aside0 (Kd.R (Kd.int .u8) 5 w28 w.heap.size (fun _ => True) u4 x4_1) := ⟨(by rw [hw]; exact (by (with_reducible repeat (first | apply Kd.R_alloc | apply Kd.R_drewN | apply Kd.R_drew)); exact Kd.R_mono (Kd.R_far (p := ⟨gb356, 4, none⟩) (Kd.R_far (p := ⟨gb356, 3, none⟩) (Kd.R_far (p := ⟨gb356, 2, none⟩) (Kd.R_far (p := ⟨gb356, 1, none⟩) (Kd.R_far (p := ⟨gb356, 0, none⟩) (Kd.R_types HO_4.out BK356.out (by decide)) (fun _ hk => hk.2) (.int .u64 ((rd_T62 l0_0 x6_1).f0))) (fun _ hk => hk.2) (.int .i64 ((rd_T62 l0_0 x6_1).f1))) (fun _ hk => hk.2) (.int .i64 ((rd_T62 l0_0 x6_1).f2))) (fun _ hk => hk.2) (.slice A355_3 ((rd_T62 l0_0 x6_1).f3).length c355_3)) (fun _ hk => hk.2) (.slice A355_4 ((rd_T62 l0_0 x6_1).f4).length c355_4)) (fun _ hk => trivial)))⟩; have n1_ : Aside0 (w28.heap[gb344]? = some (.cells #[.slice (some ad355) l0_0.length c0_0, .slice A0_1 l0_1.length c0_1, .slice A0_2 l0_2.length c0_2, .slice A0_3 l0_3.length c0_3, .slice A0_4 l0_4.length c0_4, .int .u64 a0_5] 27 (0, 0))) := ⟨(by rw [hw]; exact (by (with_reducible repeat (first | refine blk_drewN ?_ _ | refine blk_drew ?_ | refine blk_alloc ?_ _)); refine blk_far ?_ NB344_356.out _; (with_reducible repeat (first | refine blk_drewN ?_ _ | refine blk_drew ?_ | refine blk_alloc ?_ _)); refine blk_far ?_ NB344_356.out _; (with_reducible repeat (first | refine blk_drewN ?_ _ | refine blk_drew ?_ | refine blk_alloc ?_ _)); refine blk_far ?_ NB344_356.out _; (with_reducible repeat (first | refine blk_drewN ?_ _ | refine blk_drew ?_ | refine blk_alloc ?_ _)); refine blk_far ?_ NB344_356.out _; (with_reducible repeat (first | refine blk_drewN ?_ _ | refine blk_drew ?_ | refine blk_alloc ?_ _)); refine blk_far ?_ NB344_356.out _; (with_reducible repeat (first | refine blk_drewN ?_ _ | refine blk_drew ?_ | refine blk_alloc ?_ _)); exact BK344.out))⟩; have n2_ : Aside0 (w28.heap[gb356]? = some (.cells #[.int .u64 ((rd_T62 l0_0 x6_1).f0), .int .i64 ((rd_T62 l0_0 x6_1).f1), .int .i64 ((rd_T62 l0_0 x6_1).f2), .slice A355_3 ((rd_T62 l0_0 x6_1).f3).length c355_3, .slice A355_4 ((rd_T62 l0_0 x6_1).f4).length c355_4] 62 (0, 0))) := ⟨(by rw [hw]; exact (by (with_reducible repeat (first | refine blk_drewN ?_ _ | refine blk_drew ?_ | refine blk_alloc ?_ _)); refine blk_put (cs := #[.int .u64 ((rd_T62 l0_0 x6_1).f0), .int .i64 ((rd_T62 l0_0 x6_1).f1), .int .i64 ((rd_T62 l0_0 x6_1).f2), .slice A355_3 ((rd_T62 l0_0 x6_1).f3).length c355_3, .slice none 0 0]) ?_ 4 _ rfl; (with_reducible repeat (first | refine blk_drewN ?_ _ | refine blk_drew ?_ | refine blk_alloc ?_ _)); refine blk_put (cs := #[.int .u64 ((rd_T62 l0_0 x6_1).f0), .int .i64 ((rd_T62 l0_0 x6_1).f1), .int .i64 ((rd_T62 l0_0 x6_1).f2), .slice none 0 0, .slice none 0 0]) ?_ 3 _ rfl; (with_reducible repeat (first | refine blk_drewN ?_ _ | refine blk_drew ?_ | refine blk_alloc ?_ _)); refine blk_put (cs := #[.int .u64 ((rd_T62 l0_0 x6_1).f0), .int .i64 ((rd_T62 l0_0 x6_1).f1), .int .i64 0, .slice none 0 0, .slice none 0 0]) ?_ 2 _ rfl; (with_reducible repeat (first | refine blk_drewN ?_ _ | refine blk_drew ?_ | refine blk_alloc ?_ _)); refine blk_put (cs := #[.int .u64 ((rd_T62 l0_0 x6_1).f0), .int .i64 0, .int .i64 0, .slice none 0 0, .slice none 0 0]) ?_ 1 _ rfl; (with_reducible repeat (first | refine blk_drewN ?_ _ | refine blk_drew ?_ | refine blk_alloc ?_ _)); refine blk_put (cs := #[.int .u64 0, .int .i64 0, .int .i64 0, .slice none 0 0, .slice none 0 0]) ?_ 0 _ rfl; (with_reducible repeat (first | refine blk_drewN ?_ _ | refine blk_drew ?_ | refine blk_alloc ?_ _)); exact BK356.out))⟩; have n3_ : Aside0 (Below w.heap.size w w28) := ⟨(by rw [hw]; exact (by repeat (first | (with_reducible first | exact HB.out | apply below_alloc | apply pw_below_drewN | apply below_drew1 | refine below_set ?_ GE344.out | refine below_set ?_ GE356.out) | exact HB.out)))⟩; clear hw; clear HO_4; clear BK344; clear BK356; clear HB; have HO_4 := n0_; have BK344 := n1_; have BK356 := n2_; have HB := n3_; clear n0_ n1_ n2_ n3_; have hcz29_0 : w28.cell? ⟨gb356, 0, none⟩ = some (.int .u64 ((rd_T62 l0_0 x6_1).f0)) := (blk_cell BK356.out 0).trans rfl; have hcz29_1 : w28.cell? ⟨gb356, 1, none⟩ = some (.int .i64 ((rd_T62 l0_0 x6_1).f1)) := (blk_cell BK356.out 1).trans rfl; have hcz29_2 : w28.cell? ⟨gb356, 2, none⟩ = some (.int .i64 ((rd_T62 l0_0 x6_1).f2)) := (blk_cell BK356.out 2).trans rfl; have hcz29_3 : w28.cell? ⟨gb356, 3, none⟩ = some (.slice A355_3 ((rd_T62 l0_0 x6_1).f3).length c355_3) := (blk_cell BK356.out 3).trans rfl; have hcz29_4 : w28.cell? ⟨gb356, 4, none⟩ = some (.slice A355_4 ((rd_T62 l0_0 x6_1).f4).length c355_4) := (blk_cell BK356.out 4).trans rfl; have hfz29_0 := blk_frozen BK356.out 0; have hfz29_1 := blk_frozen BK356.out 1; have hfz29_2 := blk_frozen BK356.out 2; have hfz29_3 := blk_frozen BK356.out 3; have hfz29_4 := blk_frozen BK356.out 4; obtain ⟨Ao30, co30, eo30⟩ := Kd.R_slice HO_4.out; subst eo30) | ((with_reducible refine gate_callee (f := 44) rfl ?_); refine goesL_ (some 44) rfl rfl Tryd.func44 (by kernel_rfl) rfl #[.slice Ao30 x4_1.length co30, .int .u64 (IntKind.u64.wrap (((rd_T62 l0_0 x6_1).f0) - x5_1))] rfl (by (try simp only [List.map_toArray, List.map_cons, List.map_nil]); first | done | rfl | (simp only [List.length_drop, List.length_take]; rfl)) ?_; (with_reducible refine (middenref16_number.calls k1 (fun k_ => some k_ = (.slice Ao30 x4_1.length co30 : Value).ownBlock) (.slice Ao30 x4_1.length co30) x4_1 (IntKind.u64.wrap (((rd_T62 l0_0 x6_1).f0) - x5_1)) t357 w _ ?side1 ?side2 A19.out).mono ?_); (case side1 => repeat (first | (with_reducible first | exact HB.out | apply below_alloc | apply pw_below_drewN | apply below_drew1 | refine below_set ?_ GE344.out | refine below_set ?_ GE356.out) | exact HB.out)); (case side2 => exact Kd.R_tight rfl HO_4.out); rintro e w31 ⟨v358, rfl, ho0, hb, hkp⟩; refine ⟨_, rfl, ?_⟩; have n0_ := Aside0.mk (blk_kept (by (with_reducible repeat (first | refine blk_drewN ?_ _ | refine blk_drew ?_ | refine blk_alloc ?_ _)); exact BK344.out) hkp (fun hs_ => (fun e_ => (Kd.R_ne HO_4.out BK344.out (by decide)) e_) hs_)); have n1_ := Aside0.mk (blk_kept (by (with_reducible repeat (first | refine blk_drewN ?_ _ | refine blk_drew ?_ | refine blk_alloc ?_ _)); exact BK356.out) hkp (fun hs_ => (fun e_ => (Kd.R_ne HO_4.out BK356.out (by decide)) e_) hs_)); have n2_ := Aside0.mk (Kd.R_mono (ok' := fun k_ => True) ho0 (fun k_ hk_ => trivial)); have n3_ := Aside0.mk (hb); clear BK344; clear BK356; clear HB; clear HO_4; have BK344 := n0_; have BK356 := n1_; have HO359 := n2_; have HB := n3_; clear n0_ n1_ n2_ n3_; (try clear hb); (try clear hkp); (try clear ho0); have hcz32_0 : w31.cell? ⟨gb356, 0, none⟩ = some (.int .u64 ((rd_T62 l0_0 x6_1).f0)) := (blk_cell BK356.out 0).trans rfl; have hcz32_1 : w31.cell? ⟨gb356, 1, none⟩ = some (.int .i64 ((rd_T62 l0_0 x6_1).f1)) := (blk_cell BK356.out 1).trans rfl; have hcz32_2 : w31.cell? ⟨gb356, 2, none⟩ = some (.int .i64 ((rd_T62 l0_0 x6_1).f2)) := (blk_cell BK356.out 2).trans rfl; have hcz32_3 : w31.cell? ⟨gb356, 3, none⟩ = some (.slice A355_3 ((rd_T62 l0_0 x6_1).f3).length c355_3) := (blk_cell BK356.out 3).trans rfl; have hcz32_4 : w31.cell? ⟨gb356, 4, none⟩ = some (.slice A355_4 ((rd_T62 l0_0 x6_1).f4).length c355_4) := (blk_cell BK356.out 4).trans rfl; have hfz32_0 := blk_frozen BK356.out 0; have hfz32_1 := blk_frozen BK356.out 1; have hfz32_2 := blk_frozen BK356.out 2; have hfz32_3 := blk_frozen BK356.out 3; have hfz32_4 := blk_frozen BK356.out 4; obtain ⟨Ao33, co33, eo33⟩ := Kd.R_slice HO359.out; subst eo33) | ((with_reducible refine gate_callee (f := 44) rfl ?_); refine goesL_ (some 51) rfl rfl Tryd.func44 (by kernel_rfl) rfl #[.slice Ao33 t357.length co33, .int .u64 (IntKind.u64.wrap ((rd_T62 l0_0 x6_1).f1))] rfl (by (try simp only [List.map_toArray, List.map_cons, List.map_nil]); first | done | rfl | (simp only [List.length_drop, List.length_take]; rfl)) ?_; (with_reducible refine (middenref16_number.calls k1 (fun k_ => some k_ = (.slice Ao33 t357.length co33 : Value).ownBlock) (.slice Ao33 t357.length co33) t357 (IntKind.u64.wrap ((rd_T62 l0_0 x6_1).f1)) t360 w _ ?side1 ?side2 A20.out).mono ?_); (case side1 => repeat (first | (with_reducible first | exact HB.out | apply below_alloc | apply pw_below_drewN | apply below_drew1 | refine below_set ?_ GE344.out | refine below_set ?_ GE356.out) | exact HB.out)); (case side2 => exact Kd.R_tight rfl HO359.out); rintro e w34 ⟨v361, rfl, ho0, hb, hkp⟩; refine ⟨_, rfl, ?_⟩; have n0_ := Aside0.mk (blk_kept (by (with_reducible repeat (first | refine blk_drewN ?_ _ | refine blk_drew ?_ | refine blk_alloc ?_ _)); exact BK344.out) hkp (fun hs_ => (fun e_ => (Kd.R_ne HO359.out BK344.out (by decide)) e_) hs_)); have n1_ := Aside0.mk (blk_kept (by (with_reducible repeat (first | refine blk_drewN ?_ _ | refine blk_drew ?_ | refine blk_alloc ?_ _)); exact BK356.out) hkp (fun hs_ => (fun e_ => (Kd.R_ne HO359.out BK356.out (by decide)) e_) hs_)); have n2_ := Aside0.mk (Kd.R_mono (ok' := fun k_ => True) ho0 (fun k_ hk_ => trivial)); have n3_ := Aside0.mk (hb); clear BK344; clear BK356; clear HB; clear HO359; have BK344 := n0_; have BK356 := n1_; have HO362 := n2_; have HB := n3_; clear n0_ n1_ n2_ n3_; (try clear hb); (try clear hkp); (try clear ho0); have hcz35_0 : w34.cell? ⟨gb356, 0, none⟩ = some (.int .u64 ((rd_T62 l0_0 x6_1).f0)) := (blk_cell BK356.out 0).trans rfl; have hcz35_1 : w34.cell? ⟨gb356, 1, none⟩ = some (.int .i64 ((rd_T62 l0_0 x6_1).f1)) := (blk_cell BK356.out 1).trans rfl; have hcz35_2 : w34.cell? ⟨gb356, 2, none⟩ = some (.int .i64 ((rd_T62 l0_0 x6_1).f2)) := (blk_cell BK356.out 2).trans rfl; have hcz35_3 : w34.cell? ⟨gb356, 3, none⟩ = some (.slice A355_3 ((rd_T62 l0_0 x6_1).f3).length c355_3) := (blk_cell BK356.out 3).trans rfl; have hcz35_4 : w34.cell? ⟨gb356, 4, none⟩ = some (.slice A355_4 ((rd_T62 l0_0 x6_1).f4).length c355_4) := (blk_cell BK356.out 4).trans rfl; have hfz35_0 := blk_frozen BK356.out 0; have hfz35_1 := blk_frozen BK356.out 1; have hfz35_2 := blk_frozen BK356.out 2; have hfz35_3 := blk_frozen BK356.out 3; have hfz35_4 := blk_frozen BK356.out 4; obtain ⟨Ao36, co36, eo36⟩ := Kd.R_slice HO362.out; subst eo36) | ((with_reducible refine gate_callee (f := 44) rfl ?_); refine goesL_ (some 56) rfl rfl Tryd.func44 (by kernel_rfl) rfl #[.slice Ao36 t360.length co36, .int .u64 (IntKind.u64.wrap ((rd_T62 l0_0 x6_1).f2))] rfl (by (try simp only [List.map_toArray, List.map_cons, List.map_nil]); first | done | rfl | (simp only [List.length_drop, List.length_take]; rfl)) ?_; (with_reducible refine (middenref16_number.calls k1 (fun k_ => some k_ = (.slice Ao36 t360.length co36 : Value).ownBlock) (.slice Ao36 t360.length co36) t360 (IntKind.u64.wrap ((rd_T62 l0_0 x6_1).f2)) t363 w _ ?side1 ?side2 A21.out).mono ?_); (case side1 => repeat (first | (with_reducible first | exact HB.out | apply below_alloc | apply pw_below_drewN | apply below_drew1 | refine below_set ?_ GE344.out | refine below_set ?_ GE356.out) | exact HB.out)); (case side2 => exact Kd.R_tight rfl HO362.out); rintro e w37 ⟨v364, rfl, ho0, hb, hkp⟩; refine ⟨_, rfl, ?_⟩; have n0_ := Aside0.mk (blk_kept (by (with_reducible repeat (first | refine blk_drewN ?_ _ | refine blk_drew ?_ | refine blk_alloc ?_ _)); exact BK344.out) hkp (fun hs_ => (fun e_ => (Kd.R_ne HO362.out BK344.out (by decide)) e_) hs_)); have n1_ := Aside0.mk (blk_kept (by (with_reducible repeat (first | refine blk_drewN ?_ _ | refine blk_drew ?_ | refine blk_alloc ?_ _)); exact BK356.out) hkp (fun hs_ => (fun e_ => (Kd.R_ne HO362.out BK356.out (by decide)) e_) hs_)); have n2_ := Aside0.mk (Kd.R_mono (ok' := fun k_ => True) ho0 (fun k_ hk_ => trivial)); have n3_ := Aside0.mk (hb); clear BK344; clear BK356; clear HB; clear HO362; have BK344 := n0_; have BK356 := n1_; have HO365 := n2_; have HB := n3_; clear n0_ n1_ n2_ n3_; (try clear hb); (try clear hkp); (try clear ho0); have hcz38_0 : w37.cell? ⟨gb356, 0, none⟩ = some (.int .u64 ((rd_T62 l0_0 x6_1).f0)) := (blk_cell BK356.out 0).trans rfl; have hcz38_1 : w37.cell? ⟨gb356, 1, none⟩ = some (.int .i64 ((rd_T62 l0_0 x6_1).f1)) := (blk_cell BK356.out 1).trans rfl; have hcz38_2 : w37.cell? ⟨gb356, 2, none⟩ = some (.int .i64 ((rd_T62 l0_0 x6_1).f2)) := (blk_cell BK356.out 2).trans rfl; have hcz38_3 : w37.cell? ⟨gb356, 3, none⟩ = some (.slice A355_3 ((rd_T62 l0_0 x6_1).f3).length c355_3) := (blk_cell BK356.out 3).trans rfl; have hcz38_4 : w37.cell? ⟨gb356, 4, none⟩ = some (.slice A355_4 ((rd_T62 l0_0 x6_1).f4).length c355_4) := (blk_cell BK356.out 4).trans rfl; have hfz38_0 := blk_frozen BK356.out 0; have hfz38_1 := blk_frozen BK356.out 1; have hfz38_2 := blk_frozen BK356.out 2; have hfz38_3 := blk_frozen BK356.out 3; have hfz38_4 := blk_frozen BK356.out 4; obtain ⟨Ao39, co39, eo39⟩ := Kd.R_slice HO365.out; subst eo39) | ((with_reducible refine gate_callee (f := 45) rfl ?_); refine goesL_ (some 60) rfl rfl Tryd.func45 (by kernel_rfl) rfl #[.slice Ao39 t363.length co39, .slice A355_3 ((rd_T62 l0_0 x6_1).f3).length c355_3, .int .i64 0] rfl (by (try simp only [List.map_toArray, List.map_cons, List.map_nil]); first | done | rfl | (simp only [List.length_drop, List.length_take]; rfl)) ?_; (with_reducible refine (middenref16_ints.calls k1 (fun k_ => some k_ = (.slice Ao39 t363.length co39 : Value).ownBlock) (.slice Ao39 t363.length co39) t363 _ _ ((rd_T62 l0_0 x6_1).f3) 0 t366 w _ ?side1 ?side2 ?side3 ?side4 A22.out).mono ?_); (case side1 => repeat (first | (with_reducible first | exact HB.out | apply below_alloc | apply pw_below_drewN | apply below_drew1 | refine below_set ?_ GE344.out | refine below_set ?_ GE356.out) | exact HB.out)); (case side2 => exact Kd.R_tight rfl HO365.out); (case side3 => exact Kd.C_kept_came (Kd.heap_int .i64) HR355_3.out (by repeat (first | (with_reducible first | exact HB.out | apply below_alloc | apply pw_below_drewN | apply below_drew1 | refine below_set ?_ GE344.out | refine below_set ?_ GE356.out) | exact HB.out)) (fun k_ hs_ => (fun e_ => Kd.R_base HO365.out k_ e_.symm) hs_)); (case side4 => exact HC355_3.out); rintro e w40 ⟨v367, rfl, ho0, hb, hkp⟩; refine ⟨_, rfl, ?_⟩; have n0_ := Aside0.mk (blk_kept (by (with_reducible repeat (first | refine blk_drewN ?_ _ | refine blk_drew ?_ | refine blk_alloc ?_ _)); exact BK344.out) hkp (fun hs_ => (fun e_ => (Kd.R_ne HO365.out BK344.out (by decide)) e_) hs_)); have n1_ := Aside0.mk (blk_kept (by (with_reducible repeat (first | refine blk_drewN ?_ _ | refine blk_drew ?_ | refine blk_alloc ?_ _)); exact BK356.out) hkp (fun hs_ => (fun e_ => (Kd.R_ne HO365.out BK356.out (by decide)) e_) hs_)); have n2_ := Aside0.mk (Kd.R_mono (ok' := fun k_ => True) ho0 (fun k_ hk_ => trivial)); have n3_ := Aside0.mk (hb); clear BK344; clear BK356; clear HB; clear HO365; have BK344 := n0_; have BK356 := n1_; have HO368 := n2_; have HB := n3_; clear n0_ n1_ n2_ n3_; (try clear hb); (try clear hkp); (try clear ho0); have hcz41_0 : w40.cell? ⟨gb356, 0, none⟩ = some (.int .u64 ((rd_T62 l0_0 x6_1).f0)) := (blk_cell BK356.out 0).trans rfl; have hcz41_1 : w40.cell? ⟨gb356, 1, none⟩ = some (.int .i64 ((rd_T62 l0_0 x6_1).f1)) := (blk_cell BK356.out 1).trans rfl; have hcz41_2 : w40.cell? ⟨gb356, 2, none⟩ = some (.int .i64 ((rd_T62 l0_0 x6_1).f2)) := (blk_cell BK356.out 2).trans rfl; have hcz41_3 : w40.cell? ⟨gb356, 3, none⟩ = some (.slice A355_3 ((rd_T62 l0_0 x6_1).f3).length c355_3) := (blk_cell BK356.out 3).trans rfl; have hcz41_4 : w40.cell? ⟨gb356, 4, none⟩ = some (.slice A355_4 ((rd_T62 l0_0 x6_1).f4).length c355_4) := (blk_cell BK356.out 4).trans rfl; have hfz41_0 := blk_frozen BK356.out 0; have hfz41_1 := blk_frozen BK356.out 1; have hfz41_2 := blk_frozen BK356.out 2; have hfz41_3 := blk_frozen BK356.out 3; have hfz41_4 := blk_frozen BK356.out 4; obtain ⟨Ao42, co42, eo42⟩ := Kd.R_slice HO368.out; subst eo42) | ((with_reducible refine gate_callee (f := 44) rfl ?_); refine goesL_ (some 66) rfl rfl Tryd.func44 (by kernel_rfl) rfl #[.slice Ao42 t366.length co42, .int .u64 (IntKind.u64.wrap ((((rd_T62 l0_0 x6_1).f4).length : Int)))] rfl (by (try simp only [List.map_toArray, List.map_cons, List.map_nil]); first | done | rfl | (simp only [List.length_drop, List.length_take]; rfl)) ?_; (with_reducible refine (middenref16_number.calls k1 (fun k_ => some k_ = (.slice Ao42 t366.length co42 : Value).ownBlock) (.slice Ao42 t366.length co42) t366 (IntKind.u64.wrap ((((rd_T62 l0_0 x6_1).f4).length : Int))) t369 w _ ?side1 ?side2 A23.out).mono ?_); (case side1 => repeat (first | (with_reducible first | exact HB.out | apply below_alloc | apply pw_below_drewN | apply below_drew1 | refine below_set ?_ GE344.out | refine below_set ?_ GE356.out) | exact HB.out)); (case side2 => exact Kd.R_tight rfl HO368.out); rintro e w43 ⟨v370, rfl, ho0, hb, hkp⟩; refine ⟨_, rfl, ?_⟩; have n0_ := Aside0.mk (blk_kept (by (with_reducible repeat (first | refine blk_drewN ?_ _ | refine blk_drew ?_ | refine blk_alloc ?_ _)); exact BK344.out) hkp (fun hs_ => (fun e_ => (Kd.R_ne HO368.out BK344.out (by decide)) e_) hs_)); have n1_ := Aside0.mk (blk_kept (by (with_reducible repeat (first | refine blk_drewN ?_ _ | refine blk_drew ?_ | refine blk_alloc ?_ _)); exact BK356.out) hkp (fun hs_ => (fun e_ => (Kd.R_ne HO368.out BK356.out (by decide)) e_) hs_)); have n2_ := Aside0.mk (Kd.R_mono (ok' := fun k_ => True) ho0 (fun k_ hk_ => trivial)); have n3_ := Aside0.mk (hb); clear BK344; clear BK356; clear HB; clear HO368; have BK344 := n0_; have BK356 := n1_; have HO371 := n2_; have HB := n3_; clear n0_ n1_ n2_ n3_; (try clear hb); (try clear hkp); (try clear ho0)))
      go_loopg [4, 8] k1 (fun kq v4 v8 w' => ∃ (x4_2 : List Int) (x8_2 : Int), v8 = .int .i64 x8_2 ∧ Aside0 (middenref16_Write.l1 kq x4_2 ((rd_T62 l0_0 x6_1).f0) x6_1 x8_2 l0_0 l0_1 l0_2 l0_3 l0_4 a0_5 ((rd_T62 l0_0 x6_1).f0) ((rd_T62 l0_0 x6_1).f1) ((rd_T62 l0_0 x6_1).f2) ((rd_T62 l0_0 x6_1).f3) ((rd_T62 l0_0 x6_1).f4) = some (r1, r2)) ∧ Aside0 (kq ≤ k1) ∧ Aside0 (Kd.R (Kd.int .u8) 5 w' w.heap.size (fun _ => True) v4 x4_2) ∧ Aside0 (w'.heap[gb344]? = some (.cells #[(.slice (some ad355) l0_0.length c0_0), (.slice A0_1 l0_1.length c0_1), (.slice A0_2 l0_2.length c0_2), (.slice A0_3 l0_3.length c0_3), (.slice A0_4 l0_4.length c0_4), .int .u64 a0_5] 27 (0, 0))) ∧ Aside0 (w'.heap[gb356]? = some (.cells #[.int .u64 ((rd_T62 l0_0 x6_1).f0), .int .i64 ((rd_T62 l0_0 x6_1).f1), .int .i64 ((rd_T62 l0_0 x6_1).f2), (.slice A355_3 ((rd_T62 l0_0 x6_1).f3).length c355_3), (.slice A355_4 ((rd_T62 l0_0 x6_1).f4).length c355_4)] 62 (0, 0))) ∧ Aside0 (Below w.heap.size w w'))
      case atStart => exact ⟨(t369), (0), (by first | rfl | (simp; done) | (simp [*]; done)), H', ⟨Nat.le_refl _⟩, ⟨by (with_reducible repeat (first | apply Kd.R_alloc | apply Kd.R_drewN | apply Kd.R_drew)); exact HO371.out⟩, ⟨by (with_reducible repeat (first | refine blk_drewN ?_ _ | refine blk_drew ?_ | refine blk_alloc ?_ _)); exact BK344.out⟩, ⟨by (with_reducible repeat (first | refine blk_drewN ?_ _ | refine blk_drew ?_ | refine blk_alloc ?_ _)); exact BK356.out⟩, ⟨by repeat (first | (with_reducible first | exact HB.out | apply below_alloc | apply pw_below_drewN | apply below_drew1 | refine below_set ?_ GE344.out | refine below_set ?_ GE356.out) | exact HB.out)⟩⟩
      case round =>
       clear H'
       try clear c1
       try clear c2
       try clear p2
       try clear c3
       try clear c3b0
       try clear c3b1
       try clear p3
       try clear q3
       try clear hx3
       try clear c4
       try clear c13
       try clear c17
       try clear c17b0
       try clear c18
       try clear c18b0
       try clear c26
       try clear c35
       try clear p35
       try clear q35
       try clear hx35
       try clear hcz11_0
       try clear hcz11_1
       try clear hcz11_2
       try clear hcz11_3
       try clear hcz11_4
       try clear hcz11_5
       try clear hcz14_0
       try clear hcz14_1
       try clear hcz14_2
       try clear hcz14_3
       try clear hcz14_4
       try clear hcz14_5
       try clear hcz24_0
       try clear hcz24_1
       try clear hcz24_2
       try clear hcz24_3
       try clear hcz24_4
       try clear hcz24_5
       try clear hcz27_0
       try clear hcz27_1
       try clear hcz27_2
       try clear hcz27_3
       try clear hcz27_4
       try clear hcz29_0
       try clear hcz29_1
       try clear hcz29_2
       try clear hcz29_3
       try clear hcz29_4
       try clear hcz32_0
       try clear hcz32_1
       try clear hcz32_2
       try clear hcz32_3
       try clear hcz32_4
       try clear hcz35_0
       try clear hcz35_1
       try clear hcz35_2
       try clear hcz35_3
       try clear hcz35_4
       try clear hcz38_0
       try clear hcz38_1
       try clear hcz38_2
       try clear hcz38_3
       try clear hcz38_4
       try clear hcz41_0
       try clear hcz41_1
       try clear hcz41_2
       try clear hcz41_3
       try clear hcz41_4
       try clear hcz7_0
       try clear hcz7_1
       try clear hcz7_2
       try clear hcz7_3
       try clear hcz7_4
       try clear hcz7_5
       try clear hfz11_0
       try clear hfz11_1
       try clear hfz11_2
       try clear hfz11_3
       try clear hfz11_4
       try clear hfz11_5
       try clear hfz14_0
       try clear hfz14_1
       try clear hfz14_2
       try clear hfz14_3
       try clear hfz14_4
       try clear hfz14_5
       try clear hfz24_0
       try clear hfz24_1
       try clear hfz24_2
       try clear hfz24_3
       try clear hfz24_4
       try clear hfz24_5
       try clear hfz27_0
       try clear hfz27_1
       try clear hfz27_2
       try clear hfz27_3
       try clear hfz27_4
       try clear hfz29_0
       try clear hfz29_1
       try clear hfz29_2
       try clear hfz29_3
       try clear hfz29_4
       try clear hfz32_0
       try clear hfz32_1
       try clear hfz32_2
       try clear hfz32_3
       try clear hfz32_4
       try clear hfz35_0
       try clear hfz35_1
       try clear hfz35_2
       try clear hfz35_3
       try clear hfz35_4
       try clear hfz38_0
       try clear hfz38_1
       try clear hfz38_2
       try clear hfz38_3
       try clear hfz38_4
       try clear hfz41_0
       try clear hfz41_1
       try clear hfz41_2
       try clear hfz41_3
       try clear hfz41_4
       try clear hfz7_0
       try clear hfz7_1
       try clear hfz7_2
       try clear hfz7_3
       try clear hfz7_4
       try clear hfz7_5
       try clear hx355_0
       try clear hx355_1
       try clear hx355_2
       try clear hx355_3
       try clear hx355_4
       try clear p2
       try clear p355
       try clear q355
       obtain ⟨x4_2, x8_2, rfl, HA, HK2, HO_4, BK344, BK356, HB⟩ := hrel
       cases gk with
       | zero => exact absurd HA.out (by simp [middenref16_Write.l1])
       | succ k2 =>
        have H := HA.out
        clear HA
        simp only [middenref16_Write.l1] at H
        by_cases c44 : x8_2 < (((rd_T62 l0_0 x6_1).f4).length : Int)
        ·rw [if_pos c44] at H
         have c44b0 : decide (x8_2 < (((rd_T62 l0_0 x6_1).f4).length : Int)) = true := decide_eq_true c44
         clear c44
         by_cases c45 : 0 ≤ x8_2
         ·rw [if_pos c45] at H
          have c45b0 : decide (0 ≤ x8_2) = true := decide_eq_true c45
          clear c45
          replace H := Option.bind_eq_some_iff.mp H
          obtain ⟨t373, A460, H⟩ := H
          replace H : (middenref16_Write.l1 k2 t373 ((rd_T62 l0_0 x6_1).f0) x6_1 (wrap64 (x8_2 + 1)) l0_0 l0_1 l0_2 l0_3 l0_4 a0_5 ((rd_T62 l0_0 x6_1).f0) ((rd_T62 l0_0 x6_1).f1) ((rd_T62 l0_0 x6_1).f2) ((rd_T62 l0_0 x6_1).f3) ((rd_T62 l0_0 x6_1).f4)) = some (r1, r2) := H
          have A46 := Aside0.mk A460
          clear A460
          have H' := Aside0.mk H
          clear H
          have hnb47 := NB356_344.out
          have hnc47 := NB344_356.out
          have hcz48_0 : wr.cell? ⟨gb356, 0, none⟩ = some (.int .u64 ((rd_T62 l0_0 x6_1).f0)) := (blk_cell BK356.out 0).trans rfl
          have hcz48_1 : wr.cell? ⟨gb356, 1, none⟩ = some (.int .i64 ((rd_T62 l0_0 x6_1).f1)) := (blk_cell BK356.out 1).trans rfl
          have hcz48_2 : wr.cell? ⟨gb356, 2, none⟩ = some (.int .i64 ((rd_T62 l0_0 x6_1).f2)) := (blk_cell BK356.out 2).trans rfl
          have hcz48_3 : wr.cell? ⟨gb356, 3, none⟩ = some (.slice A355_3 ((rd_T62 l0_0 x6_1).f3).length c355_3) := (blk_cell BK356.out 3).trans rfl
          have hcz48_4 : wr.cell? ⟨gb356, 4, none⟩ = some (.slice A355_4 ((rd_T62 l0_0 x6_1).f4).length c355_4) := (blk_cell BK356.out 4).trans rfl
          have hfz48_0 := blk_frozen BK356.out 0
          have hfz48_1 := blk_frozen BK356.out 1
          have hfz48_2 := blk_frozen BK356.out 2
          have hfz48_3 := blk_frozen BK356.out 3
          have hfz48_4 := blk_frozen BK356.out 4
          have p372 : 0 ≤ (x8_2 : Int) := of_decide_eq_true (by first | (with_reducible assumption) | assumption)
          have q372 : x8_2 < (((rd_T62 l0_0 x6_1).f4).length : Int) := of_decide_eq_true (by first | (with_reducible assumption) | assumption)
          obtain ⟨ad372, e372, hx372_0⟩ := Kd.at_int HR355_4.out x8_2 p372 q372
          cases e372
          replace hx372_0 := (HB.out.cell (World.block_lt_of_cell? w _ hx372_0)).trans hx372_0
          replace p372 := eq_true p372
          replace q372 := eq_true q372
          obtain ⟨Ao49, co49, eo49⟩ := Kd.R_slice HO_4.out
          subst eo49
          go_wp2_with (first | ((with_reducible refine gate_callee (f := 44) rfl ?_); refine goesL_ (some 80) rfl rfl Tryd.func44 (by kernel_rfl) rfl #[.slice Ao49 x4_2.length co49, .int .u64 (rd ((rd_T62 l0_0 x6_1).f4) x8_2)] rfl (by (try simp only [List.map_toArray, List.map_cons, List.map_nil]); first | done | rfl | (simp only [List.length_drop, List.length_take]; rfl)) ?_; (with_reducible refine (middenref16_number.calls k2 (fun k_ => some k_ = (.slice Ao49 x4_2.length co49 : Value).ownBlock) (.slice Ao49 x4_2.length co49) x4_2 (rd ((rd_T62 l0_0 x6_1).f4) x8_2) t373 w _ ?side1 ?side2 A46.out).mono ?_); (case side1 => repeat (first | (with_reducible first | exact HB.out | apply below_alloc | apply pw_below_drewN | apply below_drew1 | refine below_set ?_ GE344.out | refine below_set ?_ GE356.out) | exact HB.out)); (case side2 => exact Kd.R_tight rfl HO_4.out); rintro e w50 ⟨v374, rfl, ho0, hb, hkp⟩; refine ⟨_, rfl, ?_⟩; have n0_ := Aside0.mk (blk_kept (by (with_reducible repeat (first | refine blk_drewN ?_ _ | refine blk_drew ?_ | refine blk_alloc ?_ _)); exact BK344.out) hkp (fun hs_ => (fun e_ => (Kd.R_ne HO_4.out BK344.out (by decide)) e_) hs_)); have n1_ := Aside0.mk (blk_kept (by (with_reducible repeat (first | refine blk_drewN ?_ _ | refine blk_drew ?_ | refine blk_alloc ?_ _)); exact BK356.out) hkp (fun hs_ => (fun e_ => (Kd.R_ne HO_4.out BK356.out (by decide)) e_) hs_)); have n2_ := Aside0.mk (Kd.R_mono (ok' := fun k_ => True) ho0 (fun k_ hk_ => trivial)); have n3_ := Aside0.mk (hb); clear BK344; clear BK356; clear HB; clear HO_4; have BK344 := n0_; have BK356 := n1_; have HO375 := n2_; have HB := n3_; clear n0_ n1_ n2_ n3_; (try clear hb); (try clear hkp); (try clear ho0)))
          go_roundg k2
          case measure => have := HK1.out; have := HK2.out; omega
          case rel => exact ⟨(t373), (wrap64 (x8_2 + 1)), (by first | rfl | (simp; done) | (simp [*]; done)), H', ⟨by have := HK1.out; have := HK2.out; omega⟩, ⟨by (with_reducible repeat (first | apply Kd.R_alloc | apply Kd.R_drewN | apply Kd.R_drew)); exact HO375.out⟩, ⟨by (with_reducible repeat (first | refine blk_drewN ?_ _ | refine blk_drew ?_ | refine blk_alloc ?_ _)); exact BK344.out⟩, ⟨by (with_reducible repeat (first | refine blk_drewN ?_ _ | refine blk_drew ?_ | refine blk_alloc ?_ _)); exact BK356.out⟩, ⟨by repeat (first | (with_reducible first | exact HB.out | apply below_alloc | apply pw_below_drewN | apply below_drew1 | refine below_set ?_ GE344.out | refine below_set ?_ GE356.out) | exact HB.out)⟩⟩
         ·rw [if_neg c45] at H
          exact absurd H (by simp)
        ·rw [if_neg c44] at H
         have c44b0 : decide (x8_2 < (((rd_T62 l0_0 x6_1).f4).length : Int)) = false := decide_eq_false c44
         clear c44
         have H' := Aside0.mk H
         clear H
         have hnb51 := NB356_344.out
         have hnc51 := NB344_356.out
         have hcz52_0 : wr.cell? ⟨gb356, 0, none⟩ = some (.int .u64 ((rd_T62 l0_0 x6_1).f0)) := (blk_cell BK356.out 0).trans rfl
         have hcz52_1 : wr.cell? ⟨gb356, 1, none⟩ = some (.int .i64 ((rd_T62 l0_0 x6_1).f1)) := (blk_cell BK356.out 1).trans rfl
         have hcz52_2 : wr.cell? ⟨gb356, 2, none⟩ = some (.int .i64 ((rd_T62 l0_0 x6_1).f2)) := (blk_cell BK356.out 2).trans rfl
         have hcz52_3 : wr.cell? ⟨gb356, 3, none⟩ = some (.slice A355_3 ((rd_T62 l0_0 x6_1).f3).length c355_3) := (blk_cell BK356.out 3).trans rfl
         have hcz52_4 : wr.cell? ⟨gb356, 4, none⟩ = some (.slice A355_4 ((rd_T62 l0_0 x6_1).f4).length c355_4) := (blk_cell BK356.out 4).trans rfl
         have hfz52_0 := blk_frozen BK356.out 0
         have hfz52_1 := blk_frozen BK356.out 1
         have hfz52_2 := blk_frozen BK356.out 2
         have hfz52_3 := blk_frozen BK356.out 3
         have hfz52_4 := blk_frozen BK356.out 4
         go_wp2
         go_roundg k2
         case measure => have := HK1.out; have := HK2.out; omega
         case rel => exact ⟨(x4_2), (((rd_T62 l0_0 x6_1).f0)), (wrap64 (x6_1 + 1)), (by first | rfl | (simp; done) | (simp [*]; done)), (by first | rfl | (simp; done) | (simp [*]; done)), H', ⟨by have := HK1.out; have := HK2.out; omega⟩, ⟨by (with_reducible repeat (first | apply Kd.R_alloc | apply Kd.R_drewN | apply Kd.R_drew)); exact HO_4.out⟩, ⟨by (with_reducible repeat (first | refine blk_drewN ?_ _ | refine blk_drew ?_ | refine blk_alloc ?_ _)); exact BK344.out⟩, ⟨by repeat (first | (with_reducible first | exact HB.out | apply below_alloc | apply pw_below_drewN | apply below_drew1 | refine below_set ?_ GE344.out | refine below_set ?_ GE356.out) | exact HB.out)⟩⟩
     ·rw [if_neg c18] at H
      exact absurd H (by simp)
    ·rw [if_neg c17] at H
     have c17b0 : decide (x6_1 < (l0_0.length : Int)) = false := decide_eq_false c17
     clear c17
     replace H := Option.bind_eq_some_iff.mp H
     obtain ⟨t376, A530, H⟩ := H
     replace H : (middenref16_Write.l2 k1 t376 0 l0_0 l0_1 l0_2 l0_3 l0_4 a0_5) = some (r1, r2) := H
     have A53 := Aside0.mk A530
     clear A530
     have H' := Aside0.mk H
     clear H
     have hcz54_0 : wr.cell? ⟨gb344, 0, none⟩ = some (.slice A0_0 l0_0.length c0_0) := (blk_cell BK344.out 0).trans rfl
     have hcz54_1 : wr.cell? ⟨gb344, 1, none⟩ = some (.slice A0_1 l0_1.length c0_1) := (blk_cell BK344.out 1).trans rfl
     have hcz54_2 : wr.cell? ⟨gb344, 2, none⟩ = some (.slice A0_2 l0_2.length c0_2) := (blk_cell BK344.out 2).trans rfl
     have hcz54_3 : wr.cell? ⟨gb344, 3, none⟩ = some (.slice A0_3 l0_3.length c0_3) := (blk_cell BK344.out 3).trans rfl
     have hcz54_4 : wr.cell? ⟨gb344, 4, none⟩ = some (.slice A0_4 l0_4.length c0_4) := (blk_cell BK344.out 4).trans rfl
     have hcz54_5 : wr.cell? ⟨gb344, 5, none⟩ = some (.int .u64 a0_5) := (blk_cell BK344.out 5).trans rfl
     have hfz54_0 := blk_frozen BK344.out 0
     have hfz54_1 := blk_frozen BK344.out 1
     have hfz54_2 := blk_frozen BK344.out 2
     have hfz54_3 := blk_frozen BK344.out 3
     have hfz54_4 := blk_frozen BK344.out 4
     have hfz54_5 := blk_frozen BK344.out 5
     obtain ⟨Ao55, co55, eo55⟩ := Kd.R_slice HO_4.out
     subst eo55
     go_wp2_with (first | ((with_reducible refine gate_callee (f := 44) rfl ?_); refine goesL_ (some 86) rfl rfl Tryd.func44 (by kernel_rfl) rfl #[.slice Ao55 x4_1.length co55, .int .u64 (IntKind.u64.wrap ((l0_1.length : Int)))] rfl (by (try simp only [List.map_toArray, List.map_cons, List.map_nil]); first | done | rfl | (simp only [List.length_drop, List.length_take]; rfl)) ?_; (with_reducible refine (middenref16_number.calls k1 (fun k_ => some k_ = (.slice Ao55 x4_1.length co55 : Value).ownBlock) (.slice Ao55 x4_1.length co55) x4_1 (IntKind.u64.wrap ((l0_1.length : Int))) t376 w _ ?side1 ?side2 A53.out).mono ?_); (case side1 => repeat (first | (with_reducible first | exact HB.out | apply below_alloc | apply pw_below_drewN | apply below_drew1 | refine below_set ?_ GE344.out) | exact HB.out)); (case side2 => exact Kd.R_tight rfl HO_4.out); rintro e w56 ⟨v377, rfl, ho0, hb, hkp⟩; refine ⟨_, rfl, ?_⟩; have n0_ := Aside0.mk (blk_kept (by (with_reducible repeat (first | refine blk_drewN ?_ _ | refine blk_drew ?_ | refine blk_alloc ?_ _)); exact BK344.out) hkp (fun hs_ => (fun e_ => (Kd.R_ne HO_4.out BK344.out (by decide)) e_) hs_)); have n1_ := Aside0.mk (Kd.R_mono (ok' := fun k_ => True) ho0 (fun k_ hk_ => trivial)); have n2_ := Aside0.mk (hb); clear BK344; clear HB; clear HO_4; have BK344 := n0_; have HO378 := n1_; have HB := n2_; clear n0_ n1_ n2_; (try clear hb); (try clear hkp); (try clear ho0)))
     go_loopg [4, 9] k1 (fun kq v4 v9 w' => ∃ (x4_2 : List Int) (x9_2 : Int), v9 = .int .i64 x9_2 ∧ Aside0 (middenref16_Write.l2 kq x4_2 x9_2 l0_0 l0_1 l0_2 l0_3 l0_4 a0_5 = some (r1, r2)) ∧ Aside0 (kq ≤ k1) ∧ Aside0 (Kd.R (Kd.int .u8) 5 w' w.heap.size (fun _ => True) v4 x4_2) ∧ Aside0 (w'.heap[gb344]? = some (.cells #[(.slice A0_0 l0_0.length c0_0), (.slice A0_1 l0_1.length c0_1), (.slice A0_2 l0_2.length c0_2), (.slice A0_3 l0_3.length c0_3), (.slice A0_4 l0_4.length c0_4), .int .u64 a0_5] 27 (0, 0))) ∧ Aside0 (Below w.heap.size w w'))
     case atStart => exact ⟨(t376), (0), (by first | rfl | (simp; done) | (simp [*]; done)), H', ⟨Nat.le_refl _⟩, ⟨by (with_reducible repeat (first | apply Kd.R_alloc | apply Kd.R_drewN | apply Kd.R_drew)); exact HO378.out⟩, ⟨by (with_reducible repeat (first | refine blk_drewN ?_ _ | refine blk_drew ?_ | refine blk_alloc ?_ _)); exact BK344.out⟩, ⟨by repeat (first | (with_reducible first | exact HB.out | apply below_alloc | apply pw_below_drewN | apply below_drew1 | refine below_set ?_ GE344.out) | exact HB.out)⟩⟩
     case round =>
      clear H'
      try clear c1
      try clear c2
      try clear p2
      try clear c3
      try clear c3b0
      try clear c3b1
      try clear p3
      try clear q3
      try clear hx3
      try clear c4
      try clear c5
      try clear p6
      try clear c13
      try clear c17
      try clear c17b0
      try clear c18
      try clear c18b0
      try clear c26
      try clear c35
      try clear p35
      try clear q35
      try clear hx35
      try clear p37
      try clear q37
      try clear hx37
      try clear c44
      try clear c44b0
      try clear c45
      try clear c45b0
      try clear c47
      try clear c51
      try clear hcz11_0
      try clear hcz11_1
      try clear hcz11_2
      try clear hcz11_3
      try clear hcz11_4
      try clear hcz11_5
      try clear hcz14_0
      try clear hcz14_1
      try clear hcz14_2
      try clear hcz14_3
      try clear hcz14_4
      try clear hcz14_5
      try clear hcz24_0
      try clear hcz24_1
      try clear hcz24_2
      try clear hcz24_3
      try clear hcz24_4
      try clear hcz24_5
      try clear hcz27_0
      try clear hcz27_1
      try clear hcz27_2
      try clear hcz27_3
      try clear hcz27_4
      try clear hcz29_0
      try clear hcz29_1
      try clear hcz29_2
      try clear hcz29_3
      try clear hcz29_4
      try clear hcz32_0
      try clear hcz32_1
      try clear hcz32_2
      try clear hcz32_3
      try clear hcz32_4
      try clear hcz35_0
      try clear hcz35_1
      try clear hcz35_2
      try clear hcz35_3
      try clear hcz35_4
      try clear hcz38_0
      try clear hcz38_1
      try clear hcz38_2
      try clear hcz38_3
      try clear hcz38_4
      try clear hcz41_0
      try clear hcz41_1
      try clear hcz41_2
      try clear hcz41_3
      try clear hcz41_4
      try clear hcz48_0
      try clear hcz48_1
      try clear hcz48_2
      try clear hcz48_3
      try clear hcz48_4
      try clear hcz52_0
      try clear hcz52_1
      try clear hcz52_2
      try clear hcz52_3
      try clear hcz52_4
      try clear hcz54_0
      try clear hcz54_1
      try clear hcz54_2
      try clear hcz54_3
      try clear hcz54_4
      try clear hcz54_5
      try clear hcz7_0
      try clear hcz7_1
      try clear hcz7_2
      try clear hcz7_3
      try clear hcz7_4
      try clear hcz7_5
      try clear hfz11_0
      try clear hfz11_1
      try clear hfz11_2
      try clear hfz11_3
      try clear hfz11_4
      try clear hfz11_5
      try clear hfz14_0
      try clear hfz14_1
      try clear hfz14_2
      try clear hfz14_3
      try clear hfz14_4
      try clear hfz14_5
      try clear hfz24_0
      try clear hfz24_1
      try clear hfz24_2
      try clear hfz24_3
      try clear hfz24_4
      try clear hfz24_5
      try clear hfz27_0
      try clear hfz27_1
      try clear hfz27_2
      try clear hfz27_3
      try clear hfz27_4
      try clear hfz29_0
      try clear hfz29_1
      try clear hfz29_2
      try clear hfz29_3
      try clear hfz29_4
      try clear hfz32_0
      try clear hfz32_1
      try clear hfz32_2
      try clear hfz32_3
      try clear hfz32_4
      try clear hfz35_0
      try clear hfz35_1
      try clear hfz35_2
      try clear hfz35_3
      try clear hfz35_4
      try clear hfz38_0
      try clear hfz38_1
      try clear hfz38_2
      try clear hfz38_3
      try clear hfz38_4
      try clear hfz41_0
      try clear hfz41_1
      try clear hfz41_2
      try clear hfz41_3
      try clear hfz41_4
      try clear hfz48_0
      try clear hfz48_1
      try clear hfz48_2
      try clear hfz48_3
      try clear hfz48_4
      try clear hfz52_0
      try clear hfz52_1
      try clear hfz52_2
      try clear hfz52_3
      try clear hfz52_4
      try clear hfz54_0
      try clear hfz54_1
      try clear hfz54_2
      try clear hfz54_3
      try clear hfz54_4
      try clear hfz54_5
      try clear hfz7_0
      try clear hfz7_1
      try clear hfz7_2
      try clear hfz7_3
      try clear hfz7_4
      try clear hfz7_5
      try clear hx355_0
      try clear hx355_1
      try clear hx355_2
      try clear hx355_3
      try clear hx355_4
      try clear hx372_0
      try clear p2
      try clear p3
      try clear p35
      try clear p355
      try clear p372
      try clear q3
      try clear q35
      try clear q355
      try clear q372
      obtain ⟨x4_2, x9_2, rfl, HA, HK2, HO_4, BK344, HB⟩ := hrel
      cases gk with
      | zero => exact absurd HA.out (by simp [middenref16_Write.l2])
      | succ k2 =>
       have H := HA.out
       clear HA
       simp only [middenref16_Write.l2] at H
       by_cases c57 : x9_2 < (l0_1.length : Int)
       ·rw [if_pos c57] at H
        have c57b0 : decide (x9_2 < (l0_1.length : Int)) = true := decide_eq_true c57
        clear c57
        by_cases c58 : 0 ≤ x9_2
        ·rw [if_pos c58] at H
         have c58b0 : decide (0 ≤ x9_2) = true := decide_eq_true c58
         clear c58
         replace H := Option.bind_eq_some_iff.mp H
         obtain ⟨t380, A590, H⟩ := H
         replace H : (middenref16_Write.l3 k2 t380 x9_2 0 l0_0 l0_1 l0_2 l0_3 l0_4 a0_5) = some (r1, r2) := H
         have A59 := Aside0.mk A590
         clear A590
         have H' := Aside0.mk H
         clear H
         have hcz60_0 : wr.cell? ⟨gb344, 0, none⟩ = some (.slice A0_0 l0_0.length c0_0) := (blk_cell BK344.out 0).trans rfl
         have hcz60_1 : wr.cell? ⟨gb344, 1, none⟩ = some (.slice A0_1 l0_1.length c0_1) := (blk_cell BK344.out 1).trans rfl
         have hcz60_2 : wr.cell? ⟨gb344, 2, none⟩ = some (.slice A0_2 l0_2.length c0_2) := (blk_cell BK344.out 2).trans rfl
         have hcz60_3 : wr.cell? ⟨gb344, 3, none⟩ = some (.slice A0_3 l0_3.length c0_3) := (blk_cell BK344.out 3).trans rfl
         have hcz60_4 : wr.cell? ⟨gb344, 4, none⟩ = some (.slice A0_4 l0_4.length c0_4) := (blk_cell BK344.out 4).trans rfl
         have hcz60_5 : wr.cell? ⟨gb344, 5, none⟩ = some (.int .u64 a0_5) := (blk_cell BK344.out 5).trans rfl
         have hfz60_0 := blk_frozen BK344.out 0
         have hfz60_1 := blk_frozen BK344.out 1
         have hfz60_2 := blk_frozen BK344.out 2
         have hfz60_3 := blk_frozen BK344.out 3
         have hfz60_4 := blk_frozen BK344.out 4
         have hfz60_5 := blk_frozen BK344.out 5
         have p379 : 0 ≤ (x9_2 : Int) := of_decide_eq_true (by first | (with_reducible assumption) | assumption)
         have q379 : x9_2 < (l0_1.length : Int) := of_decide_eq_true (by first | (with_reducible assumption) | assumption)
         obtain ⟨ad379, A379_0, c379_0, e379, hx379_0, hl379_0, hi379_0⟩ := at_L5 HR0_1.out x9_2 p379 q379
         cases e379
         replace hx379_0 := (HB.out.cell (World.block_lt_of_cell? w _ hx379_0)).trans hx379_0
         have HR379_0 := Aside0.mk hi379_0
         have HC379_0 := Aside0.mk hl379_0
         clear hi379_0 hl379_0
         replace p379 := eq_true p379
         replace q379 := eq_true q379
         obtain ⟨Ao61, co61, eo61⟩ := Kd.R_slice HO_4.out
         subst eo61
         go_wp2_with (first | ((with_reducible refine gate_callee (f := 44) rfl ?_); refine goesL_ (some 102) rfl rfl Tryd.func44 (by kernel_rfl) rfl #[.slice Ao61 x4_2.length co61, .int .u64 (IntKind.u64.wrap (((rd_L5 l0_1 x9_2).length : Int)))] rfl (by (try simp only [List.map_toArray, List.map_cons, List.map_nil]); first | done | rfl | (simp only [List.length_drop, List.length_take]; rfl)) ?_; (with_reducible refine (middenref16_number.calls k2 (fun k_ => some k_ = (.slice Ao61 x4_2.length co61 : Value).ownBlock) (.slice Ao61 x4_2.length co61) x4_2 (IntKind.u64.wrap (((rd_L5 l0_1 x9_2).length : Int))) t380 w _ ?side1 ?side2 A59.out).mono ?_); (case side1 => repeat (first | (with_reducible first | exact HB.out | apply below_alloc | apply pw_below_drewN | apply below_drew1 | refine below_set ?_ GE344.out) | exact HB.out)); (case side2 => exact Kd.R_tight rfl HO_4.out); rintro e w62 ⟨v381, rfl, ho0, hb, hkp⟩; refine ⟨_, rfl, ?_⟩; have n0_ := Aside0.mk (blk_kept (by (with_reducible repeat (first | refine blk_drewN ?_ _ | refine blk_drew ?_ | refine blk_alloc ?_ _)); exact BK344.out) hkp (fun hs_ => (fun e_ => (Kd.R_ne HO_4.out BK344.out (by decide)) e_) hs_)); have n1_ := Aside0.mk (Kd.R_mono (ok' := fun k_ => True) ho0 (fun k_ hk_ => trivial)); have n2_ := Aside0.mk (hb); clear BK344; clear HB; clear HO_4; have BK344 := n0_; have HO382 := n1_; have HB := n2_; clear n0_ n1_ n2_; (try clear hb); (try clear hkp); (try clear ho0)))
         go_loopg [4, 10] k2 (fun kq v4 v10 w' => ∃ (x4_3 : List Int) (x10_3 : Int), v10 = .int .i64 x10_3 ∧ Aside0 (middenref16_Write.l3 kq x4_3 x9_2 x10_3 l0_0 l0_1 l0_2 l0_3 l0_4 a0_5 = some (r1, r2)) ∧ Aside0 (kq ≤ k2) ∧ Aside0 (Kd.R (Kd.int .u8) 5 w' w.heap.size (fun _ => True) v4 x4_3) ∧ Aside0 (w'.heap[gb344]? = some (.cells #[(.slice A0_0 l0_0.length c0_0), (.slice (some ad379) l0_1.length c0_1), (.slice A0_2 l0_2.length c0_2), (.slice A0_3 l0_3.length c0_3), (.slice A0_4 l0_4.length c0_4), .int .u64 a0_5] 27 (0, 0))) ∧ Aside0 (Below w.heap.size w w'))
         case atStart => exact ⟨(t380), (0), (by first | rfl | (simp; done) | (simp [*]; done)), H', ⟨Nat.le_refl _⟩, ⟨by (with_reducible repeat (first | apply Kd.R_alloc | apply Kd.R_drewN | apply Kd.R_drew)); exact HO382.out⟩, ⟨by (with_reducible repeat (first | refine blk_drewN ?_ _ | refine blk_drew ?_ | refine blk_alloc ?_ _)); exact BK344.out⟩, ⟨by repeat (first | (with_reducible first | exact HB.out | apply below_alloc | apply pw_below_drewN | apply below_drew1 | refine below_set ?_ GE344.out) | exact HB.out)⟩⟩
         case round =>
          clear H'
          try clear c1
          try clear c2
          try clear p2
          try clear c3
          try clear c3b0
          try clear c3b1
          try clear p3
          try clear q3
          try clear hx3
          try clear c4
          try clear c5
          try clear p6
          try clear c13
          try clear c17
          try clear c17b0
          try clear c18
          try clear c18b0
          try clear c26
          try clear c35
          try clear p35
          try clear q35
          try clear hx35
          try clear c37
          try clear p37
          try clear q37
          try clear hx37
          try clear c44
          try clear c44b0
          try clear c45
          try clear c45b0
          try clear c47
          try clear c51
          try clear c57
          try clear c57b0
          try clear c58
          try clear c58b0
          try clear hcz11_0
          try clear hcz11_1
          try clear hcz11_2
          try clear hcz11_3
          try clear hcz11_4
          try clear hcz11_5
          try clear hcz14_0
          try clear hcz14_1
          try clear hcz14_2
          try clear hcz14_3
          try clear hcz14_4
          try clear hcz14_5
          try clear hcz24_0
          try clear hcz24_1
          try clear hcz24_2
          try clear hcz24_3
          try clear hcz24_4
          try clear hcz24_5
          try clear hcz27_0
          try clear hcz27_1
          try clear hcz27_2
          try clear hcz27_3
          try clear hcz27_4
          try clear hcz29_0
          try clear hcz29_1
          try clear hcz29_2
          try clear hcz29_3
          try clear hcz29_4
          try clear hcz32_0
          try clear hcz32_1
          try clear hcz32_2
          try clear hcz32_3
          try clear hcz32_4
          try clear hcz35_0
          try clear hcz35_1
          try clear hcz35_2
          try clear hcz35_3
          try clear hcz35_4
          try clear hcz38_0
          try clear hcz38_1
          try clear hcz38_2
          try clear hcz38_3
          try clear hcz38_4
          try clear hcz41_0
          try clear hcz41_1
          try clear hcz41_2
          try clear hcz41_3
          try clear hcz41_4
          try clear hcz48_0
          try clear hcz48_1
          try clear hcz48_2
          try clear hcz48_3
          try clear hcz48_4
          try clear hcz52_0
          try clear hcz52_1
          try clear hcz52_2
          try clear hcz52_3
          try clear hcz52_4
          try clear hcz54_0
          try clear hcz54_1
          try clear hcz54_2
          try clear hcz54_3
          try clear hcz54_4
          try clear hcz54_5
          try clear hcz60_0
          try clear hcz60_1
          try clear hcz60_2
          try clear hcz60_3
          try clear hcz60_4
          try clear hcz60_5
          try clear hcz7_0
          try clear hcz7_1
          try clear hcz7_2
          try clear hcz7_3
          try clear hcz7_4
          try clear hcz7_5
          try clear hfz11_0
          try clear hfz11_1
          try clear hfz11_2
          try clear hfz11_3
          try clear hfz11_4
          try clear hfz11_5
          try clear hfz14_0
          try clear hfz14_1
          try clear hfz14_2
          try clear hfz14_3
          try clear hfz14_4
          try clear hfz14_5
          try clear hfz24_0
          try clear hfz24_1
          try clear hfz24_2
          try clear hfz24_3
          try clear hfz24_4
          try clear hfz24_5
          try clear hfz27_0
          try clear hfz27_1
          try clear hfz27_2
          try clear hfz27_3
          try clear hfz27_4
          try clear hfz29_0
          try clear hfz29_1
          try clear hfz29_2
          try clear hfz29_3
          try clear hfz29_4
          try clear hfz32_0
          try clear hfz32_1
          try clear hfz32_2
          try clear hfz32_3
          try clear hfz32_4
          try clear hfz35_0
          try clear hfz35_1
          try clear hfz35_2
          try clear hfz35_3
          try clear hfz35_4
          try clear hfz38_0
          try clear hfz38_1
          try clear hfz38_2
          try clear hfz38_3
          try clear hfz38_4
          try clear hfz41_0
          try clear hfz41_1
          try clear hfz41_2
          try clear hfz41_3
          try clear hfz41_4
          try clear hfz48_0
          try clear hfz48_1
          try clear hfz48_2
          try clear hfz48_3
          try clear hfz48_4
          try clear hfz52_0
          try clear hfz52_1
          try clear hfz52_2
          try clear hfz52_3
          try clear hfz52_4
          try clear hfz54_0
          try clear hfz54_1
          try clear hfz54_2
          try clear hfz54_3
          try clear hfz54_4
          try clear hfz54_5
          try clear hfz60_0
          try clear hfz60_1
          try clear hfz60_2
          try clear hfz60_3
          try clear hfz60_4
          try clear hfz60_5
          try clear hfz7_0
          try clear hfz7_1
          try clear hfz7_2
          try clear hfz7_3
          try clear hfz7_4
          try clear hfz7_5
          try clear hx355_0
          try clear hx355_1
          try clear hx355_2
          try clear hx355_3
          try clear hx355_4
          try clear hx372_0
          try clear hx379_0
          try clear p2
          try clear p3
          try clear p35
          try clear p355
          try clear p37
          try clear p372
          try clear p379
          try clear p6
          try clear q3
          try clear q35
          try clear q355
          try clear q37
          try clear q372
          try clear q379
          obtain ⟨x4_3, x10_3, rfl, HA, HK3, HO_4, BK344, HB⟩ := hrel
          cases gk with
          | zero => exact absurd HA.out (by simp [middenref16_Write.l3])
          | succ k3 =>
           have H := HA.out
           clear HA
           simp only [middenref16_Write.l3] at H
           by_cases c63 : 0 ≤ x9_2
           ·rw [if_pos c63] at H
            have c63b0 : decide (0 ≤ x9_2) = true := decide_eq_true c63
            clear c63
            by_cases c64 : x9_2 < (l0_1.length : Int)
            ·rw [if_pos c64] at H
             have c64b0 : decide (x9_2 < (l0_1.length : Int)) = true := decide_eq_true c64
             clear c64
             by_cases c65 : x10_3 < ((rd_L5 l0_1 x9_2).length : Int)
             ·rw [if_pos c65] at H
              have c65b0 : decide (x10_3 < ((rd_L5 l0_1 x9_2).length : Int)) = true := decide_eq_true c65
              clear c65
              by_cases c66 : 0 ≤ x10_3
              ·rw [if_pos c66] at H
               have c66b0 : decide (0 ≤ x10_3) = true := decide_eq_true c66
               clear c66
               replace H := Option.bind_eq_some_iff.mp H
               obtain ⟨t386, A670, H⟩ := H
               replace H : (middenref16_Write.l3 k3 t386 x9_2 (wrap64 (x10_3 + 1)) l0_0 l0_1 l0_2 l0_3 l0_4 a0_5) = some (r1, r2) := H
               have A67 := Aside0.mk A670
               clear A670
               have H' := Aside0.mk H
               clear H
               have hcz68_0 : wr.cell? ⟨gb344, 0, none⟩ = some (.slice A0_0 l0_0.length c0_0) := (blk_cell BK344.out 0).trans rfl
               have hcz68_1 : wr.cell? ⟨gb344, 1, none⟩ = some (.slice (some ad379) l0_1.length c0_1) := (blk_cell BK344.out 1).trans rfl
               have hcz68_2 : wr.cell? ⟨gb344, 2, none⟩ = some (.slice A0_2 l0_2.length c0_2) := (blk_cell BK344.out 2).trans rfl
               have hcz68_3 : wr.cell? ⟨gb344, 3, none⟩ = some (.slice A0_3 l0_3.length c0_3) := (blk_cell BK344.out 3).trans rfl
               have hcz68_4 : wr.cell? ⟨gb344, 4, none⟩ = some (.slice A0_4 l0_4.length c0_4) := (blk_cell BK344.out 4).trans rfl
               have hcz68_5 : wr.cell? ⟨gb344, 5, none⟩ = some (.int .u64 a0_5) := (blk_cell BK344.out 5).trans rfl
               have hfz68_0 := blk_frozen BK344.out 0
               have hfz68_1 := blk_frozen BK344.out 1
               have hfz68_2 := blk_frozen BK344.out 2
               have hfz68_3 := blk_frozen BK344.out 3
               have hfz68_4 := blk_frozen BK344.out 4
               have hfz68_5 := blk_frozen BK344.out 5
               have p383 : 0 ≤ (x9_2 : Int) := of_decide_eq_true (by first | (with_reducible assumption) | assumption)
               have q383 : x9_2 < (l0_1.length : Int) := of_decide_eq_true (by first | (with_reducible assumption) | assumption)
               obtain ⟨ad383, A383_0, c383_0, e383, hx383_0, hl383_0, hi383_0⟩ := at_L5 HR0_1.out x9_2 p383 q383
               obtain rfl : ad379 = ad383 := (by injection e383)
               replace hx383_0 := (HB.out.cell (World.block_lt_of_cell? w _ hx383_0)).trans hx383_0
               have HR383_0 := Aside0.mk hi383_0
               have HC383_0 := Aside0.mk hl383_0
               clear hi383_0 hl383_0
               replace p383 := eq_true p383
               replace q383 := eq_true q383
               have p384 : 0 ≤ (x9_2 : Int) := of_decide_eq_true (by first | (with_reducible assumption) | assumption)
               have q384 : x9_2 < (l0_1.length : Int) := of_decide_eq_true (by first | (with_reducible assumption) | assumption)
               obtain ⟨ad384, A384_0, c384_0, e384, hx384_0, hl384_0, hi384_0⟩ := at_L5 HR0_1.out x9_2 p384 q384
               obtain rfl : ad379 = ad384 := (by injection e384)
               replace hx384_0 := (HB.out.cell (World.block_lt_of_cell? w _ hx384_0)).trans hx384_0
               have HR384_0 := Aside0.mk hi384_0
               have HC384_0 := Aside0.mk hl384_0
               clear hi384_0 hl384_0
               replace p384 := eq_true p384
               replace q384 := eq_true q384
               have ea_ := Option.some.inj (hx383_0.symm.trans hx384_0)
               injection ea_ with ea_ en_ ec_
               subst ea_
               subst ec_
               clear en_
               have p385 : 0 ≤ (x10_3 : Int) := of_decide_eq_true (by first | (with_reducible assumption) | assumption)
               have q385 : x10_3 < ((rd_L5 l0_1 x9_2).length : Int) := of_decide_eq_true (by first | (with_reducible assumption) | assumption)
               obtain ⟨ad385, A385_0, c385_0, e385, hx385_0, hl385_0, hi385_0⟩ := at_L2 HR384_0.out x10_3 p385 q385
               cases e385
               replace hx385_0 := (HB.out.cell (World.block_lt_of_cell? w _ hx385_0)).trans hx385_0
               have HR385_0 := Aside0.mk hi385_0
               have HC385_0 := Aside0.mk hl385_0
               clear hi385_0 hl385_0
               replace p385 := eq_true p385
               replace q385 := eq_true q385
               obtain ⟨Ao69, co69, eo69⟩ := Kd.R_slice HO_4.out
               subst eo69
               go_wp2_with (first | ((with_reducible refine gate_callee (f := 45) rfl ?_); refine goesL_ (some 122) rfl rfl Tryd.func45 (by kernel_rfl) rfl #[.slice Ao69 x4_3.length co69, .slice A385_0 (rd_L2 (rd_L5 l0_1 x9_2) x10_3).length c385_0, .int .i64 0] rfl (by (try simp only [List.map_toArray, List.map_cons, List.map_nil]); first | done | rfl | (simp only [List.length_drop, List.length_take]; rfl)) ?_; (with_reducible refine (middenref16_ints.calls k3 (fun k_ => some k_ = (.slice Ao69 x4_3.length co69 : Value).ownBlock) (.slice Ao69 x4_3.length co69) x4_3 _ _ (rd_L2 (rd_L5 l0_1 x9_2) x10_3) 0 t386 w _ ?side1 ?side2 ?side3 ?side4 A67.out).mono ?_); (case side1 => repeat (first | (with_reducible first | exact HB.out | apply below_alloc | apply pw_below_drewN | apply below_drew1 | refine below_set ?_ GE344.out) | exact HB.out)); (case side2 => exact Kd.R_tight rfl HO_4.out); (case side3 => exact Kd.C_kept_came (Kd.heap_int .i64) HR385_0.out (by repeat (first | (with_reducible first | exact HB.out | apply below_alloc | apply pw_below_drewN | apply below_drew1 | refine below_set ?_ GE344.out) | exact HB.out)) (fun k_ hs_ => (fun e_ => Kd.R_base HO_4.out k_ e_.symm) hs_)); (case side4 => exact HC385_0.out); rintro e w70 ⟨v387, rfl, ho0, hb, hkp⟩; refine ⟨_, rfl, ?_⟩; have n0_ := Aside0.mk (blk_kept (by (with_reducible repeat (first | refine blk_drewN ?_ _ | refine blk_drew ?_ | refine blk_alloc ?_ _)); exact BK344.out) hkp (fun hs_ => (fun e_ => (Kd.R_ne HO_4.out BK344.out (by decide)) e_) hs_)); have n1_ := Aside0.mk (Kd.R_mono (ok' := fun k_ => True) ho0 (fun k_ hk_ => trivial)); have n2_ := Aside0.mk (hb); clear BK344; clear HB; clear HO_4; have BK344 := n0_; have HO388 := n1_; have HB := n2_; clear n0_ n1_ n2_; (try clear hb); (try clear hkp); (try clear ho0)))
               go_roundg k3
               case measure => have := HK1.out; have := HK2.out; have := HK3.out; omega
               case rel => exact ⟨(t386), (wrap64 (x10_3 + 1)), (by first | rfl | (simp; done) | (simp [*]; done)), H', ⟨by have := HK1.out; have := HK2.out; have := HK3.out; omega⟩, ⟨by (with_reducible repeat (first | apply Kd.R_alloc | apply Kd.R_drewN | apply Kd.R_drew)); exact HO388.out⟩, ⟨by (with_reducible repeat (first | refine blk_drewN ?_ _ | refine blk_drew ?_ | refine blk_alloc ?_ _)); exact BK344.out⟩, ⟨by repeat (first | (with_reducible first | exact HB.out | apply below_alloc | apply pw_below_drewN | apply below_drew1 | refine below_set ?_ GE344.out) | exact HB.out)⟩⟩
              ·rw [if_neg c66] at H
               exact absurd H (by simp)
             ·rw [if_neg c65] at H
              have c65b0 : decide (x10_3 < ((rd_L5 l0_1 x9_2).length : Int)) = false := decide_eq_false c65
              clear c65
              have H' := Aside0.mk H
              clear H
              have hcz71_0 : wr.cell? ⟨gb344, 0, none⟩ = some (.slice A0_0 l0_0.length c0_0) := (blk_cell BK344.out 0).trans rfl
              have hcz71_1 : wr.cell? ⟨gb344, 1, none⟩ = some (.slice (some ad379) l0_1.length c0_1) := (blk_cell BK344.out 1).trans rfl
              have hcz71_2 : wr.cell? ⟨gb344, 2, none⟩ = some (.slice A0_2 l0_2.length c0_2) := (blk_cell BK344.out 2).trans rfl
              have hcz71_3 : wr.cell? ⟨gb344, 3, none⟩ = some (.slice A0_3 l0_3.length c0_3) := (blk_cell BK344.out 3).trans rfl
              have hcz71_4 : wr.cell? ⟨gb344, 4, none⟩ = some (.slice A0_4 l0_4.length c0_4) := (blk_cell BK344.out 4).trans rfl
              have hcz71_5 : wr.cell? ⟨gb344, 5, none⟩ = some (.int .u64 a0_5) := (blk_cell BK344.out 5).trans rfl
              have hfz71_0 := blk_frozen BK344.out 0
              have hfz71_1 := blk_frozen BK344.out 1
              have hfz71_2 := blk_frozen BK344.out 2
              have hfz71_3 := blk_frozen BK344.out 3
              have hfz71_4 := blk_frozen BK344.out 4
              have hfz71_5 := blk_frozen BK344.out 5
              have p383 : 0 ≤ (x9_2 : Int) := of_decide_eq_true (by first | (with_reducible assumption) | assumption)
              have q383 : x9_2 < (l0_1.length : Int) := of_decide_eq_true (by first | (with_reducible assumption) | assumption)
              obtain ⟨ad383, A383_0, c383_0, e383, hx383_0, hl383_0, hi383_0⟩ := at_L5 HR0_1.out x9_2 p383 q383
              obtain rfl : ad379 = ad383 := (by injection e383)
              replace hx383_0 := (HB.out.cell (World.block_lt_of_cell? w _ hx383_0)).trans hx383_0
              have HR383_0 := Aside0.mk hi383_0
              have HC383_0 := Aside0.mk hl383_0
              clear hi383_0 hl383_0
              replace p383 := eq_true p383
              replace q383 := eq_true q383
              go_wp2
              go_roundg k3
              case measure => have := HK1.out; have := HK2.out; have := HK3.out; omega
              case rel => exact ⟨(x4_3), (wrap64 (x9_2 + 1)), (by first | rfl | (simp; done) | (simp [*]; done)), H', ⟨by have := HK1.out; have := HK2.out; have := HK3.out; omega⟩, ⟨by (with_reducible repeat (first | apply Kd.R_alloc | apply Kd.R_drewN | apply Kd.R_drew)); exact HO_4.out⟩, ⟨by (with_reducible repeat (first | refine blk_drewN ?_ _ | refine blk_drew ?_ | refine blk_alloc ?_ _)); exact BK344.out⟩, ⟨by repeat (first | (with_reducible first | exact HB.out | apply below_alloc | apply pw_below_drewN | apply below_drew1 | refine below_set ?_ GE344.out) | exact HB.out)⟩⟩
            ·rw [if_neg c64] at H
             exact absurd H (by simp)
           ·rw [if_neg c63] at H
            exact absurd H (by simp)
        ·rw [if_neg c58] at H
         exact absurd H (by simp)
       ·rw [if_neg c57] at H
        have c57b0 : decide (x9_2 < (l0_1.length : Int)) = false := decide_eq_false c57
        clear c57
        replace H := Option.bind_eq_some_iff.mp H
        obtain ⟨t389, A720, H⟩ := H
        replace H : ((middenref16_ints.f k2 t389 l0_4 0).bind fun t392 => ((middenref16_Sum.f k2 t392).bind fun t395 => (middenref16_Write.l4 k2 t392 t395 0))) = some (r1, r2) := H
        have A72 := Aside0.mk A720
        clear A720
        replace H := Option.bind_eq_some_iff.mp H
        obtain ⟨t392, A730, H⟩ := H
        replace H : ((middenref16_Sum.f k2 t392).bind fun t395 => (middenref16_Write.l4 k2 t392 t395 0)) = some (r1, r2) := H
        have A73 := Aside0.mk A730
        clear A730
        replace H := Option.bind_eq_some_iff.mp H
        obtain ⟨t395, A740, H⟩ := H
        replace H : (middenref16_Write.l4 k2 t392 t395 0) = some (r1, r2) := H
        have A74 := Aside0.mk A740
        clear A740
        have H' := Aside0.mk H
        clear H
        have hcz75_0 : wr.cell? ⟨gb344, 0, none⟩ = some (.slice A0_0 l0_0.length c0_0) := (blk_cell BK344.out 0).trans rfl
        have hcz75_1 : wr.cell? ⟨gb344, 1, none⟩ = some (.slice A0_1 l0_1.length c0_1) := (blk_cell BK344.out 1).trans rfl
        have hcz75_2 : wr.cell? ⟨gb344, 2, none⟩ = some (.slice A0_2 l0_2.length c0_2) := (blk_cell BK344.out 2).trans rfl
        have hcz75_3 : wr.cell? ⟨gb344, 3, none⟩ = some (.slice A0_3 l0_3.length c0_3) := (blk_cell BK344.out 3).trans rfl
        have hcz75_4 : wr.cell? ⟨gb344, 4, none⟩ = some (.slice A0_4 l0_4.length c0_4) := (blk_cell BK344.out 4).trans rfl
        have hcz75_5 : wr.cell? ⟨gb344, 5, none⟩ = some (.int .u64 a0_5) := (blk_cell BK344.out 5).trans rfl
        have hfz75_0 := blk_frozen BK344.out 0
        have hfz75_1 := blk_frozen BK344.out 1
        have hfz75_2 := blk_frozen BK344.out 2
        have hfz75_3 := blk_frozen BK344.out 3
        have hfz75_4 := blk_frozen BK344.out 4
        have hfz75_5 := blk_frozen BK344.out 5
        obtain ⟨Ao76, co76, eo76⟩ := Kd.R_slice HO_4.out
        subst eo76
        go_wp2_with (first | ((with_reducible refine gate_callee (f := 45) rfl ?_); refine goesL_ (some 126) rfl rfl Tryd.func45 (by kernel_rfl) rfl #[.slice Ao76 x4_2.length co76, .slice A0_2 l0_2.length c0_2, .int .i64 1] rfl (by (try simp only [List.map_toArray, List.map_cons, List.map_nil]); first | done | rfl | (simp only [List.length_drop, List.length_take]; rfl)) ?_; (with_reducible refine (middenref16_ints.calls k2 (fun k_ => some k_ = (.slice Ao76 x4_2.length co76 : Value).ownBlock) (.slice Ao76 x4_2.length co76) x4_2 _ _ l0_2 1 t389 w _ ?side1 ?side2 ?side3 ?side4 A72.out).mono ?_); (case side1 => repeat (first | (with_reducible first | exact HB.out | apply below_alloc | apply pw_below_drewN | apply below_drew1 | refine below_set ?_ GE344.out) | exact HB.out)); (case side2 => exact Kd.R_tight rfl HO_4.out); (case side3 => exact Kd.C_kept_came (Kd.heap_int .i64) HR0_2.out (by repeat (first | (with_reducible first | exact HB.out | apply below_alloc | apply pw_below_drewN | apply below_drew1 | refine below_set ?_ GE344.out) | exact HB.out)) (fun k_ hs_ => (fun e_ => Kd.R_base HO_4.out k_ e_.symm) hs_)); (case side4 => exact HC0_2.out); rintro e w77 ⟨v390, rfl, ho0, hb, hkp⟩; refine ⟨_, rfl, ?_⟩; have n0_ := Aside0.mk (blk_kept (by (with_reducible repeat (first | refine blk_drewN ?_ _ | refine blk_drew ?_ | refine blk_alloc ?_ _)); exact BK344.out) hkp (fun hs_ => (fun e_ => (Kd.R_ne HO_4.out BK344.out (by decide)) e_) hs_)); have n1_ := Aside0.mk (Kd.R_mono (ok' := fun k_ => True) ho0 (fun k_ hk_ => trivial)); have n2_ := Aside0.mk (hb); clear BK344; clear HB; clear HO_4; have BK344 := n0_; have HO391 := n1_; have HB := n2_; clear n0_ n1_ n2_; (try clear hb); (try clear hkp); (try clear ho0); have hcz78_0 : w77.cell? ⟨gb344, 0, none⟩ = some (.slice A0_0 l0_0.length c0_0) := (blk_cell BK344.out 0).trans rfl; have hcz78_1 : w77.cell? ⟨gb344, 1, none⟩ = some (.slice A0_1 l0_1.length c0_1) := (blk_cell BK344.out 1).trans rfl; have hcz78_2 : w77.cell? ⟨gb344, 2, none⟩ = some (.slice A0_2 l0_2.length c0_2) := (blk_cell BK344.out 2).trans rfl; have hcz78_3 : w77.cell? ⟨gb344, 3, none⟩ = some (.slice A0_3 l0_3.length c0_3) := (blk_cell BK344.out 3).trans rfl; have hcz78_4 : w77.cell? ⟨gb344, 4, none⟩ = some (.slice A0_4 l0_4.length c0_4) := (blk_cell BK344.out 4).trans rfl; have hcz78_5 : w77.cell? ⟨gb344, 5, none⟩ = some (.int .u64 a0_5) := (blk_cell BK344.out 5).trans rfl; have hfz78_0 := blk_frozen BK344.out 0; have hfz78_1 := blk_frozen BK344.out 1; have hfz78_2 := blk_frozen BK344.out 2; have hfz78_3 := blk_frozen BK344.out 3; have hfz78_4 := blk_frozen BK344.out 4; have hfz78_5 := blk_frozen BK344.out 5; obtain ⟨Ao79, co79, eo79⟩ := Kd.R_slice HO391.out; subst eo79) | ((with_reducible refine gate_callee (f := 45) rfl ?_); refine goesL_ (some 130) rfl rfl Tryd.func45 (by kernel_rfl) rfl #[.slice Ao79 t389.length co79, .slice A0_4 l0_4.length c0_4, .int .i64 0] rfl (by (try simp only [List.map_toArray, List.map_cons, List.map_nil]); first | done | rfl | (simp only [List.length_drop, List.length_take]; rfl)) ?_; (with_reducible refine (middenref16_ints.calls k2 (fun k_ => some k_ = (.slice Ao79 t389.length co79 : Value).ownBlock) (.slice Ao79 t389.length co79) t389 _ _ l0_4 0 t392 w _ ?side1 ?side2 ?side3 ?side4 A73.out).mono ?_); (case side1 => repeat (first | (with_reducible first | exact HB.out | apply below_alloc | apply pw_below_drewN | apply below_drew1 | refine below_set ?_ GE344.out) | exact HB.out)); (case side2 => exact Kd.R_tight rfl HO391.out); (case side3 => exact Kd.C_kept_came (Kd.heap_int .i64) HR0_4.out (by repeat (first | (with_reducible first | exact HB.out | apply below_alloc | apply pw_below_drewN | apply below_drew1 | refine below_set ?_ GE344.out) | exact HB.out)) (fun k_ hs_ => (fun e_ => Kd.R_base HO391.out k_ e_.symm) hs_)); (case side4 => exact HC0_4.out); rintro e w80 ⟨v393, rfl, ho0, hb, hkp⟩; refine ⟨_, rfl, ?_⟩; have n0_ := Aside0.mk (blk_kept (by (with_reducible repeat (first | refine blk_drewN ?_ _ | refine blk_drew ?_ | refine blk_alloc ?_ _)); exact BK344.out) hkp (fun hs_ => (fun e_ => (Kd.R_ne HO391.out BK344.out (by decide)) e_) hs_)); have n1_ := Aside0.mk (Kd.R_mono (ok' := fun k_ => True) ho0 (fun k_ hk_ => trivial)); have n2_ := Aside0.mk (hb); clear BK344; clear HB; clear HO391; have BK344 := n0_; have HO394 := n1_; have HB := n2_; clear n0_ n1_ n2_; (try clear hb); (try clear hkp); (try clear ho0); obtain ⟨Ao81, co81, eo81⟩ := Kd.R_slice HO394.out; subst eo81) | ((with_reducible refine gate_callee (f := 46) rfl ?_); refine goesL_ (some 132) rfl rfl Tryd.func46 (by kernel_rfl) rfl #[.slice Ao81 t392.length co81] rfl (by (try simp only [List.map_toArray, List.map_cons, List.map_nil]); first | done | rfl | (simp only [List.length_drop, List.length_take]; rfl)) ?_; (with_reducible refine (middenref16_Sum.calls k2 _ _ t392 t395 _ ?side1 ?side2 A74.out).mono ?_); (case side1 => repeat (first | exact (Kd.R_reads' HO394.out).2.2 | (with_reducible refine Kd.C_alloc ?_ _) | (with_reducible refine Kd.C_drewN ?_ _) | (with_reducible refine Kd.C_drew ?_))); (case side2 => exact (Kd.R_reads' HO394.out).2.1); rintro e w' ⟨rfl, ⟨nd, rfl⟩⟩; refine ⟨_, rfl, ?_⟩))
        go_loopg [4, 11, 12] k2 (fun kq v4 v11 v12 w' => ∃ (x4_3 : List Int) (x11_3 : Int) (x12_3 : Int), v11 = .int .u32 x11_3 ∧ v12 = .int .i64 x12_3 ∧ Aside0 (middenref16_Write.l4 kq x4_3 x11_3 x12_3 = some (r1, r2)) ∧ Aside0 (kq ≤ k2) ∧ Aside0 (Kd.R (Kd.int .u8) 5 w' w.heap.size (fun _ => True) v4 x4_3) ∧ Aside0 (w'.heap[gb344]? = some (.cells #[(.slice A0_0 l0_0.length c0_0), (.slice A0_1 l0_1.length c0_1), (.slice A0_2 l0_2.length c0_2), (.slice A0_3 l0_3.length c0_3), (.slice A0_4 l0_4.length c0_4), .int .u64 a0_5] 27 (0, 0))) ∧ Aside0 (Below w.heap.size w w'))
        case atStart => exact ⟨(t392), (t395), (0), (by first | rfl | (simp; done) | (simp [*]; done)), (by first | rfl | (simp; done) | (simp [*]; done)), H', ⟨Nat.le_refl _⟩, ⟨by (with_reducible repeat (first | apply Kd.R_alloc | apply Kd.R_drewN | apply Kd.R_drew)); exact HO394.out⟩, ⟨by (with_reducible repeat (first | refine blk_drewN ?_ _ | refine blk_drew ?_ | refine blk_alloc ?_ _)); exact BK344.out⟩, ⟨by repeat (first | (with_reducible first | exact HB.out | apply below_alloc | apply pw_below_drewN | apply below_drew1 | refine below_set ?_ GE344.out) | exact HB.out)⟩⟩
        case round =>
         clear H'
         try clear c1
         try clear c2
         try clear p2
         try clear c3
         try clear c3b0
         try clear c3b1
         try clear p3
         try clear q3
         try clear hx3
         try clear c4
         try clear c5
         try clear c6
         try clear p6
         try clear c13
         try clear c17
         try clear c17b0
         try clear c18
         try clear c18b0
         try clear c26
         try clear c35
         try clear p35
         try clear q35
         try clear hx35
         try clear c37
         try clear p37
         try clear q37
         try clear hx37
         try clear c38
         try clear p38
         try clear q38
         try clear hx38
         try clear c44
         try clear c44b0
         try clear c45
         try clear c45b0
         try clear c46
         try clear c47
         try clear c51
         try clear c57
         try clear c57b0
         try clear c58
         try clear c58b0
         try clear c63
         try clear c63b0
         try clear c64
         try clear c64b0
         try clear p64
         try clear c65
         try clear c65b0
         try clear c66
         try clear c66b0
         try clear hcz11_0
         try clear hcz11_1
         try clear hcz11_2
         try clear hcz11_3
         try clear hcz11_4
         try clear hcz11_5
         try clear hcz14_0
         try clear hcz14_1
         try clear hcz14_2
         try clear hcz14_3
         try clear hcz14_4
         try clear hcz14_5
         try clear hcz24_0
         try clear hcz24_1
         try clear hcz24_2
         try clear hcz24_3
         try clear hcz24_4
         try clear hcz24_5
         try clear hcz27_0
         try clear hcz27_1
         try clear hcz27_2
         try clear hcz27_3
         try clear hcz27_4
         try clear hcz29_0
         try clear hcz29_1
         try clear hcz29_2
         try clear hcz29_3
         try clear hcz29_4
         try clear hcz32_0
         try clear hcz32_1
         try clear hcz32_2
         try clear hcz32_3
         try clear hcz32_4
         try clear hcz35_0
         try clear hcz35_1
         try clear hcz35_2
         try clear hcz35_3
         try clear hcz35_4
         try clear hcz38_0
         try clear hcz38_1
         try clear hcz38_2
         try clear hcz38_3
         try clear hcz38_4
         try clear hcz41_0
         try clear hcz41_1
         try clear hcz41_2
         try clear hcz41_3
         try clear hcz41_4
         try clear hcz48_0
         try clear hcz48_1
         try clear hcz48_2
         try clear hcz48_3
         try clear hcz48_4
         try clear hcz52_0
         try clear hcz52_1
         try clear hcz52_2
         try clear hcz52_3
         try clear hcz52_4
         try clear hcz54_0
         try clear hcz54_1
         try clear hcz54_2
         try clear hcz54_3
         try clear hcz54_4
         try clear hcz54_5
         try clear hcz60_0
         try clear hcz60_1
         try clear hcz60_2
         try clear hcz60_3
         try clear hcz60_4
         try clear hcz60_5
         try clear hcz68_0
         try clear hcz68_1
         try clear hcz68_2
         try clear hcz68_3
         try clear hcz68_4
         try clear hcz68_5
         try clear hcz71_0
         try clear hcz71_1
         try clear hcz71_2
         try clear hcz71_3
         try clear hcz71_4
         try clear hcz71_5
         try clear hcz75_0
         try clear hcz75_1
         try clear hcz75_2
         try clear hcz75_3
         try clear hcz75_4
         try clear hcz75_5
         try clear hcz78_0
         try clear hcz78_1
         try clear hcz78_2
         try clear hcz78_3
         try clear hcz78_4
         try clear hcz78_5
         try clear hcz7_0
         try clear hcz7_1
         try clear hcz7_2
         try clear hcz7_3
         try clear hcz7_4
         try clear hcz7_5
         try clear hfz11_0
         try clear hfz11_1
         try clear hfz11_2
         try clear hfz11_3
         try clear hfz11_4
         try clear hfz11_5
         try clear hfz14_0
         try clear hfz14_1
         try clear hfz14_2
         try clear hfz14_3
         try clear hfz14_4
         try clear hfz14_5
         try clear hfz24_0
         try clear hfz24_1
         try clear hfz24_2
         try clear hfz24_3
         try clear hfz24_4
         try clear hfz24_5
         try clear hfz27_0
         try clear hfz27_1
         try clear hfz27_2
         try clear hfz27_3
         try clear hfz27_4
         try clear hfz29_0
         try clear hfz29_1
         try clear hfz29_2
         try clear hfz29_3
         try clear hfz29_4
         try clear hfz32_0
         try clear hfz32_1
         try clear hfz32_2
         try clear hfz32_3
         try clear hfz32_4
         try clear hfz35_0
         try clear hfz35_1
         try clear hfz35_2
         try clear hfz35_3
         try clear hfz35_4
         try clear hfz38_0
         try clear hfz38_1
         try clear hfz38_2
         try clear hfz38_3
         try clear hfz38_4
         try clear hfz41_0
         try clear hfz41_1
         try clear hfz41_2
         try clear hfz41_3
         try clear hfz41_4
         try clear hfz48_0
         try clear hfz48_1
         try clear hfz48_2
         try clear hfz48_3
         try clear hfz48_4
         try clear hfz52_0
         try clear hfz52_1
         try clear hfz52_2
         try clear hfz52_3
         try clear hfz52_4
         try clear hfz54_0
         try clear hfz54_1
         try clear hfz54_2
         try clear hfz54_3
         try clear hfz54_4
         try clear hfz54_5
         try clear hfz60_0
         try clear hfz60_1
         try clear hfz60_2
         try clear hfz60_3
         try clear hfz60_4
         try clear hfz60_5
         try clear hfz68_0
         try clear hfz68_1
         try clear hfz68_2
         try clear hfz68_3
         try clear hfz68_4
         try clear hfz68_5
         try clear hfz71_0
         try clear hfz71_1
         try clear hfz71_2
         try clear hfz71_3
         try clear hfz71_4
         try clear hfz71_5
         try clear hfz75_0
         try clear hfz75_1
         try clear hfz75_2
         try clear hfz75_3
         try clear hfz75_4
         try clear hfz75_5
         try clear hfz78_0
         try clear hfz78_1
         try clear hfz78_2
         try clear hfz78_3
         try clear hfz78_4
         try clear hfz78_5
         try clear hfz7_0
         try clear hfz7_1
         try clear hfz7_2
         try clear hfz7_3
         try clear hfz7_4
         try clear hfz7_5
         try clear hx355_0
         try clear hx355_1
         try clear hx355_2
         try clear hx355_3
         try clear hx355_4
         try clear hx372_0
         try clear hx379_0
         try clear hx383_0
         try clear hx384_0
         try clear hx385_0
         try clear p2
         try clear p3
         try clear p35
         try clear p355
         try clear p37
         try clear p372
         try clear p379
         try clear p383
         try clear p384
         try clear p385
         try clear p6
         try clear q3
         try clear q35
         try clear q355
         try clear q37
         try clear q372
         try clear q379
         try clear q383
         try clear q384
         try clear q385
         obtain ⟨x4_3, x11_3, x12_3, rfl, rfl, HA, HK3, HO_4, BK344, HB⟩ := hrel
         cases gk with
         | zero => exact absurd HA.out (by simp [middenref16_Write.l4])
         | succ k3 =>
          have H := HA.out
          clear HA
          simp only [middenref16_Write.l4] at H
          by_cases c82 : x12_3 < 4
          ·rw [if_pos c82] at H
           have c82b0 : decide (x12_3 < 4) = true := decide_eq_true c82
           clear c82
           by_cases c83 : x4_3.length < 140737488355328
           ·rw [if_pos c83] at H
            have LMc83 := Aside0.mk c83
            clear c83
            obtain ⟨y396, hy396⟩ : ∃ y_ : List Int, y_ = (x4_3 ++ [(Int.tmod x11_3 256) % 256]) := ⟨_, rfl⟩
            replace H : (middenref16_Write.l4 k3 y396 ((Int.tdiv x11_3 256) % 4294967296) (wrap64 (x12_3 + 1))) = some (r1, r2) := by first | (rw [hy396]; with_reducible exact H) | (have H2_ := (Option.bind_some _ _).symm.trans H; rw [hy396]; with_reducible exact H2_) | (have H2_ := (Option.bind_some _ _).symm.trans H; with_reducible exact H2_) | with_reducible exact H | (rw [hy396]; exact H) | exact H
            have Ny396 := Aside0.mk hy396
            clear hy396
            have H' := Aside0.mk H
            clear H
            go_wp2_with (first | ((with_reducible refine gate_builtin (b := .append) (xs := #[.tmp 137, .tmp 141]) rfl ?_); at_builtin; refine Kd.R_append (Kd.int .u8) (w0 := w) w.heap.size rfl (.tmp 137) (.tmp 141) 47 5 (.int .u8 0) 1 rfl Tryd.underlying47 info5 rfl (by decide) (by omega) u4 x4_3 ((Int.tmod x11_3 256) % 256) [.int .u8 ((Int.tmod x11_3 256) % 256)] (fun _ => True) (fun _ => False) rfl rfl ?aP (fun _ hk => hk.elim) ?aF ?aO ?aB ?aS ?aL ?_; (case aP => exact rfl); (case aB => exact (by repeat (first | (with_reducible first | exact HB.out | apply below_alloc | apply pw_below_drewN | apply below_drew1 | refine below_set ?_ GE344.out) | exact HB.out))); (case aF => exact (fun _ _ => trivial)); (case aO => exact (by (with_reducible repeat (first | apply Kd.R_alloc | apply Kd.R_drewN | apply Kd.R_drew)); exact HO_4.out)); (case aS => exact (below_size (by repeat (first | (with_reducible first | exact HB.out | apply below_alloc | apply pw_below_drewN | apply below_drew1 | refine below_set ?_ GE344.out) | exact HB.out)))); (case aL => have := LMc83.out; omega); intro v397 w84 ho hb hg hat; rw [← Ny396.out] at ho; have n0_ := Aside0.mk (blk_grown (g := gb344) (o := .cells #[.slice A0_0 l0_0.length c0_0, .slice A0_1 l0_1.length c0_1, .slice A0_2 l0_2.length c0_2, .slice A0_3 l0_3.length c0_3, .slice A0_4 l0_4.length c0_4, .int .u64 a0_5] 27 (0, 0)) (by (with_reducible repeat (first | refine blk_drewN ?_ _ | refine blk_drew ?_ | refine blk_alloc ?_ _)); exact BK344.out) hg (Kd.R_ne HO_4.out BK344.out (by decide))); have n1_ := Aside0.mk (hb); have n2_ := Aside0.mk (ho); clear BK344; clear HB; clear HO_4; have BK344 := n0_; have HB := n1_; have HO398 := n2_; clear n0_ n1_ n2_; clear ho hb hg hat))
            go_roundg k3
            case measure => have := HK1.out; have := HK2.out; have := HK3.out; omega
            case rel => exact ⟨(y396), ((Int.tdiv x11_3 256) % 4294967296), (wrap64 (x12_3 + 1)), (by first | rfl | (simp; done) | (simp [*]; done)), (by first | rfl | (simp; done) | (simp [*]; done)), H', ⟨by have := HK1.out; have := HK2.out; have := HK3.out; omega⟩, ⟨by (with_reducible repeat (first | apply Kd.R_alloc | apply Kd.R_drewN | apply Kd.R_drew)); exact HO398.out⟩, ⟨by (with_reducible repeat (first | refine blk_drewN ?_ _ | refine blk_drew ?_ | refine blk_alloc ?_ _)); exact BK344.out⟩, ⟨by repeat (first | (with_reducible first | exact HB.out | apply below_alloc | apply pw_below_drewN | apply below_drew1 | refine below_set ?_ GE344.out) | exact HB.out)⟩⟩
           ·rw [if_neg c83] at H
            exact absurd H (by simp)
          ·rw [if_neg c82] at H
           have c82b0 : decide (x12_3 < 4) = false := decide_eq_false c82
           clear c82
           simp only [Option.some.injEq, Prod.mk.injEq] at H
           obtain ⟨rfl, rfl⟩ := H
           go_wp2
           go_ret2
           exact ⟨_, by first | rfl | (simp [errW_none, errW_some] <;> rfl) | (simp [*, errW_none, errW_some] <;> rfl), by (with_reducible repeat (first | apply Kd.R_alloc | apply Kd.R_drewN | apply Kd.R_drew)); exact HO_4.out, by repeat (first | (with_reducible first | exact HB.out | apply below_alloc | apply pw_below_drewN | apply below_drew1 | refine below_set ?_ GE344.out) | exact HB.out)⟩
 ·rw [if_neg c3] at H
  have c3b0 : (t345 == 0) = false := beq_eq_false_iff_ne.mpr c3
  have c3b1 : (t345 != 0) = true := bne_iff_ne.mpr c3
  simp only [Option.some.injEq, Prod.mk.injEq] at H
  obtain ⟨rfl, rfl⟩ := H
  go_enter Tryd.func17, Tryd.ntmps17
  go_wp2_with (first | ((with_reducible refine gate_dst (N := 1) rfl ?_); refine box_event ?hg (N := 1) ?hd (cs := #[.slice A0_0 l0_0.length c0_0, .slice A0_1 l0_1.length c0_1, .slice A0_2 l0_2.length c0_2, .slice A0_3 l0_3.length c0_3, .slice A0_4 l0_4.length c0_4, .int .u64 a0_5]) (t := 27) ?hr ?_; (case hd => rfl); (case hg => rfl); (case hr => first | (go_simp; done) | (go_simp; rfl)); intro gb344 hg w85 hbox hb; have n0_ := Aside0.mk (below_step (by repeat (first | (with_reducible first | exact HB.out | apply below_alloc | apply pw_below_drewN | apply below_drew1) | exact HB.out)) hb); have n1_ := Aside0.mk (hbox); have n2_ := Aside0.mk ((by rw [hg]; exact (below_size (by repeat (first | (with_reducible first | exact HB.out | apply below_alloc | apply pw_below_drewN | apply below_drew1) | exact HB.out))) : w.heap.size ≤ gb344)); have n3_ := Aside0.mk ((by rw [hg]; exact (below_size (by repeat (first | (with_reducible first | exact HB.out | apply below_alloc | apply pw_below_drewN | apply below_drew1) | exact HB.out))) : w.heap.size ≤ gb344)); clear HB; have HB := n0_; have BK344 := n1_; have GW344 := n2_; have GE344 := n3_; clear n0_ n1_ n2_ n3_; clear hb hbox hg; have hcz86_0 : w85.cell? ⟨gb344, 0, none⟩ = some (.slice A0_0 l0_0.length c0_0) := (blk_cell BK344.out 0).trans rfl; have hcz86_1 : w85.cell? ⟨gb344, 1, none⟩ = some (.slice A0_1 l0_1.length c0_1) := (blk_cell BK344.out 1).trans rfl; have hcz86_2 : w85.cell? ⟨gb344, 2, none⟩ = some (.slice A0_2 l0_2.length c0_2) := (blk_cell BK344.out 2).trans rfl; have hcz86_3 : w85.cell? ⟨gb344, 3, none⟩ = some (.slice A0_3 l0_3.length c0_3) := (blk_cell BK344.out 3).trans rfl; have hcz86_4 : w85.cell? ⟨gb344, 4, none⟩ = some (.slice A0_4 l0_4.length c0_4) := (blk_cell BK344.out 4).trans rfl; have hcz86_5 : w85.cell? ⟨gb344, 5, none⟩ = some (.int .u64 a0_5) := (blk_cell BK344.out 5).trans rfl; have hfz86_0 := blk_frozen BK344.out 0; have hfz86_1 := blk_frozen BK344.out 1; have hfz86_2 := blk_frozen BK344.out 2; have hfz86_3 := blk_frozen BK344.out 3; have hfz86_4 := blk_frozen BK344.out 4; have hfz86_5 := blk_frozen BK344.out 5) | ((with_reducible refine gate_callee (f := 13) rfl ?_); refine goesL_ (some 14) rfl rfl Tryd.func13 (by kernel_rfl) rfl #[.agg #[.slice A0_0 l0_0.length c0_0, .slice A0_1 l0_1.length c0_1, .slice A0_2 l0_2.length c0_2, .slice A0_3 l0_3.length c0_3, .slice A0_4 l0_4.length c0_4, .int .u64 a0_5]] rfl (by (try simp only [List.map_toArray, List.map_cons, List.map_nil]); first | done | rfl | (simp only [List.length_drop, List.length_take]; rfl)) ?_; (with_reducible refine (middenref16_Check.calls k _ _ l0_0 _ _ l0_1 _ _ l0_2 _ _ l0_3 _ _ l0_4 a0_5 t345 _ ?side1 ?side2 ?side3 ?side4 ?side5 ?side6 ?side7 ?side8 ?side9 ?side10 A2.out).mono ?_); (case side1 => repeat (first | exact (Kd.C_below HR0_0.out HB.out) | (with_reducible refine Kd.C_alloc ?_ _) | (with_reducible refine Kd.C_drewN ?_ _) | (with_reducible refine Kd.C_drew ?_))); (case side2 => exact HC0_0.out); (case side3 => repeat (first | exact (Kd.C_below HR0_1.out HB.out) | (with_reducible refine Kd.C_alloc ?_ _) | (with_reducible refine Kd.C_drewN ?_ _) | (with_reducible refine Kd.C_drew ?_))); (case side4 => exact HC0_1.out); (case side5 => repeat (first | exact (Kd.C_below HR0_2.out HB.out) | (with_reducible refine Kd.C_alloc ?_ _) | (with_reducible refine Kd.C_drewN ?_ _) | (with_reducible refine Kd.C_drew ?_))); (case side6 => exact HC0_2.out); (case side7 => repeat (first | exact (Kd.C_below HR0_3.out HB.out) | (with_reducible refine Kd.C_alloc ?_ _) | (with_reducible refine Kd.C_drewN ?_ _) | (with_reducible refine Kd.C_drew ?_))); (case side8 => exact HC0_3.out); (case side9 => repeat (first | exact (Kd.C_below HR0_4.out HB.out) | (with_reducible refine Kd.C_alloc ?_ _) | (with_reducible refine Kd.C_drewN ?_ _) | (with_reducible refine Kd.C_drew ?_))); (case side10 => exact HC0_4.out); rintro e w87 ⟨rfl, hb⟩; refine ⟨_, rfl, ?_⟩; have n0_ := Aside0.mk (blk_below (g := gb344) (o := .cells #[.slice A0_0 l0_0.length c0_0, .slice A0_1 l0_1.length c0_1, .slice A0_2 l0_2.length c0_2, .slice A0_3 l0_3.length c0_3, .slice A0_4 l0_4.length c0_4, .int .u64 a0_5] 27 (0, 0)) (by (with_reducible repeat (first | refine blk_drewN ?_ _ | refine blk_drew ?_ | refine blk_alloc ?_ _)); exact BK344.out) hb); have n1_ := Aside0.mk (below_step (by repeat (first | (with_reducible first | exact HB.out | apply below_alloc | apply pw_below_drewN | apply below_drew1 | refine below_set ?_ GE344.out) | exact HB.out)) hb); clear BK344; clear HB; have BK344 := n0_; have HB := n1_; clear n0_ n1_; (try clear hb); (try clear hb2); (try clear hk); (try clear hi)))
  go_ret2
  exact ⟨_, by first | rfl | (simp [errW_none, errW_some] <;> rfl) | (simp [*, errW_none, errW_some] <;> rfl), by first | exact Kd.R_nil _ _ _ _ _ | exact Kd.N_nil _ _ _ _ _ | exact Kd.V_nil _ _ _ _ _ | exact Kd.Q_nil _ _ _ _ _ | exact Kd.S_nil _ _ _ _ _, by repeat (first | (with_reducible first | exact HB.out | apply below_alloc | apply pw_below_drewN | apply below_drew1 | refine below_set ?_ GE344.out) | exact HB.out)⟩

end Go.Proofs.YtihjjkoddphmiaaDoor.PImageRound
