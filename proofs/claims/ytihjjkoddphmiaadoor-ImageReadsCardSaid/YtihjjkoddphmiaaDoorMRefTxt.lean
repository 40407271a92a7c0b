-- Printed by the kit's print.sh, then cut by wip/gen/shake.py: what no text of this claim names is left out.
import Derived.Test.YtihjjkoddphmiaaDoorMPImageRoundx0
namespace Go.Proofs.YtihjjkoddphmiaaDoor.PImageRound
open Go.RowKit Go.Proofs.YtihjjkoddphmiaaDoorW.PrintWords Go.Proofs.YtihjjkoddphmiaaDoorW.PrintLast Go.Proofs.YtihjjkoddphmiaaDoorW.PrintMore
attribute [local go_sem] max2_int min2_int max_two min_two max_three min_three max_four min_four   -- for this text's walks alone
set_option linter.unusedVariables false
set_option linter.unusedSimpArgs false

/-- A state of type 81 at block g of W; what its slices lead to came in by w0. -/
def IsS81 (w0 W : World) (g : Nat) (f0 : List Int) (f1 : Int) (f2 : Int) (f3 : Int) : Prop := ∃ A0 c0, W.heap[g]? = some (.cells #[.slice A0 f0.length c0, .int .i64 f1, .int .i64 f2, .int .i64 f3] 81 (0, 0)) ∧ w0.heap.size ≤ g ∧ Kd.C (Kd.int .u8) w0 A0 f0.length f0
theorem IsS81.grown {w0 W : World} {g : Nat} {f0 : List Int} {f1 : Int} {f2 : Int} {f3 : Int} {W1 : World} {row : Option Nat} (h : IsS81 w0 W g f0 f1 f2 f3) (hw : W.grownBy W1 row) (hne : some g ≠ row) : IsS81 w0 W1 g f0 f1 f2 f3 := by
 obtain ⟨A0, c0, hb, hg, hr0⟩ := h
 exact ⟨A0, c0, blk_grown hb hw hne, hg, hr0⟩
theorem IsS81.below {w0 W : World} {g : Nat} {f0 : List Int} {f1 : Int} {f2 : Int} {f3 : Int} {W1 : World} (h : IsS81 w0 W g f0 f1 f2 f3) (hw : Below W.heap.size W W1) : IsS81 w0 W1 g f0 f1 f2 f3 := h.grown (grown_of_below hw none) (by simp)
theorem IsS81.alloc {w0 W : World} {g : Nat} {f0 : List Int} {f1 : Int} {f2 : Int} {f3 : Int} (h : IsS81 w0 W g f0 f1 f2 f3) (o : Obj) : IsS81 w0 (W.alloc o) g f0 f1 f2 f3 := h.below (below_alloc (Below.refl _ _) o)
theorem IsS81.drewN {w0 W : World} {g : Nat} {f0 : List Int} {f1 : Int} {f2 : Int} {f3 : Int} (h : IsS81 w0 W g f0 f1 f2 f3) (m : Nat) : IsS81 w0 (W.drewN m) g f0 f1 f2 f3 := h
theorem IsS81.drew {w0 W : World} {g : Nat} {f0 : List Int} {f1 : Int} {f2 : Int} {f3 : Int} (h : IsS81 w0 W g f0 f1 f2 f3) : IsS81 w0 W.drew g f0 f1 f2 f3 := h
theorem IsS81.apart {w0 W : World} {g : Nat} {f0 : List Int} {f1 : Int} {f2 : Int} {f3 : Int} {α : Type} {d : Kd α} {e : Nat} {base : Nat} {ok : Nat → Prop} {v : Value} {xs : List α} (h : IsS81 w0 W g f0 f1 f2 f3) (ho : d.R e W base ok v xs) (ht : ∀ q, q ∈ e :: d.E → q ≠ 81) : d.R e W base (fun k => ok k ∧ k ≠ g) v xs := by
 obtain ⟨A0, c0, hb, hg, hr0⟩ := h
 exact Kd.R_types ho hb ht
theorem IsS81.own_ne {w0 W : World} {g : Nat} {f0 : List Int} {f1 : Int} {f2 : Int} {f3 : Int} {α : Type} {d : Kd α} {e : Nat} {base : Nat} {ok : Nat → Prop} {v : Value} {xs : List α} (h : IsS81 w0 W g f0 f1 f2 f3) (ho : d.R e W base ok v xs) (ht : e ≠ 81) : some g ≠ v.ownBlock := by
 obtain ⟨A0, c0, hb, hg, hr0⟩ := h
 exact Kd.R_ne ho hb ht
theorem IsS81.lt {w0 W : World} {g : Nat} {f0 : List Int} {f1 : Int} {f2 : Int} {f3 : Int} (h : IsS81 w0 W g f0 f1 f2 f3) : g < W.heap.size := by
 obtain ⟨A0, c0, hb, hg, hr0⟩ := h
 exact blk_lt hb
theorem IsS81.ge {w0 W : World} {g : Nat} {f0 : List Int} {f1 : Int} {f2 : Int} {f3 : Int} (h : IsS81 w0 W g f0 f1 f2 f3) : w0.heap.size ≤ g := by
 obtain ⟨A0, c0, hb, hg, hr0⟩ := h
 exact hg
theorem IsS81.ne_blk {w0 W : World} {g : Nat} {f0 : List Int} {f1 : Int} {f2 : Int} {f3 : Int} {a : Nat} {cs : Array Value} {t : TypeId} {fr : Nat × Nat} (h : IsS81 w0 W g f0 f1 f2 f3) (hb2 : W.heap[a]? = some (.cells cs t fr)) (ht : t ≠ 81) : g ≠ a := by
 obtain ⟨A0, c0, hb, hg, hr0⟩ := h
 rintro rfl
 rw [hb] at hb2
 injection hb2 with hb2
 injection hb2 with _ ht2
 exact ht ht2.symm
theorem IsS81.far {w0 W : World} {g : Nat} {f0 : List Int} {f1 : Int} {f2 : Int} {f3 : Int} {p : Addr} (h : IsS81 w0 W g f0 f1 f2 f3) (hne : g ≠ p.block) (u : Value) : IsS81 w0 (W.setCell p u) g f0 f1 f2 f3 := by
 obtain ⟨A0, c0, hb, hg, hr0⟩ := h
 exact ⟨A0, c0, blk_far hb hne u, hg, hr0⟩
theorem cellS81_0 {W : World} {g : Nat} {A0 : Option Addr} {c0 : Nat} {f0 : List Int} {f1 : Int} {f2 : Int} {f3 : Int} (h : W.heap[g]? = some (.cells #[.slice A0 f0.length c0, .int .i64 f1, .int .i64 f2, .int .i64 f3] 81 (0, 0))) : W.cell? ⟨g, 0, none⟩ = some (.slice A0 f0.length c0) := (blk_cell h 0).trans rfl
theorem cellS81_1 {W : World} {g : Nat} {A0 : Option Addr} {c0 : Nat} {f0 : List Int} {f1 : Int} {f2 : Int} {f3 : Int} (h : W.heap[g]? = some (.cells #[.slice A0 f0.length c0, .int .i64 f1, .int .i64 f2, .int .i64 f3] 81 (0, 0))) : W.cell? ⟨g, 1, none⟩ = some (.int .i64 f1) := (blk_cell h 1).trans rfl
theorem IsS81.set_1 {w0 W : World} {g : Nat} {f0 : List Int} {f1 : Int} {f2 : Int} {f3 : Int} (h : IsS81 w0 W g f0 f1 f2 f3) (x : Int) : IsS81 w0 (W.setCell ⟨g, 1, none⟩ (.int .i64 x)) g f0 x f2 f3 := by
 obtain ⟨A0, c0, hb, hg, hr0⟩ := h
 exact ⟨A0, c0, by simpa using blk_set hb 1 (.int .i64 x), hg, hr0⟩
theorem cellS81_2 {W : World} {g : Nat} {A0 : Option Addr} {c0 : Nat} {f0 : List Int} {f1 : Int} {f2 : Int} {f3 : Int} (h : W.heap[g]? = some (.cells #[.slice A0 f0.length c0, .int .i64 f1, .int .i64 f2, .int .i64 f3] 81 (0, 0))) : W.cell? ⟨g, 2, none⟩ = some (.int .i64 f2) := (blk_cell h 2).trans rfl
theorem IsS81.set_2 {w0 W : World} {g : Nat} {f0 : List Int} {f1 : Int} {f2 : Int} {f3 : Int} (h : IsS81 w0 W g f0 f1 f2 f3) (x : Int) : IsS81 w0 (W.setCell ⟨g, 2, none⟩ (.int .i64 x)) g f0 f1 x f3 := by
 obtain ⟨A0, c0, hb, hg, hr0⟩ := h
 exact ⟨A0, c0, by simpa using blk_set hb 2 (.int .i64 x), hg, hr0⟩
theorem cellS81_3 {W : World} {g : Nat} {A0 : Option Addr} {c0 : Nat} {f0 : List Int} {f1 : Int} {f2 : Int} {f3 : Int} (h : W.heap[g]? = some (.cells #[.slice A0 f0.length c0, .int .i64 f1, .int .i64 f2, .int .i64 f3] 81 (0, 0))) : W.cell? ⟨g, 3, none⟩ = some (.int .i64 f3) := (blk_cell h 3).trans rfl
theorem IsS81.set_3 {w0 W : World} {g : Nat} {f0 : List Int} {f1 : Int} {f2 : Int} {f3 : Int} (h : IsS81 w0 W g f0 f1 f2 f3) (x : Int) : IsS81 w0 (W.setCell ⟨g, 3, none⟩ (.int .i64 x)) g f0 f1 f2 x := by
 obtain ⟨A0, c0, hb, hg, hr0⟩ := h
 exact ⟨A0, c0, by simpa using blk_set hb 3 (.int .i64 x), hg, hr0⟩
theorem IsS81.new (w0 W : World) (A0 : Option Addr) (c0 : Nat) (f0 : List Int) (f1 : Int) (f2 : Int) (f3 : Int) (hB : Below w0.heap.size w0 W) (hr0 : Kd.C (Kd.int .u8) w0 A0 f0.length f0) : IsS81 w0 (W.alloc (.cells #[.slice A0 f0.length c0, .int .i64 f1, .int .i64 f2, .int .i64 f3] 81)) W.heap.size f0 f1 f2 f3 := ⟨A0, c0, by simpa using heap_alloc_new W _, hB.size, hr0⟩

def middenref16_text_fault.f (s0_0 : List Int) (s0_1 : Int) (s0_2 : Int) (s0_3 : Int) (a1 : Int) (a2 : Int) : Option (Int × Int × Int) := if s0_2 = 0 then (some (s0_1, a2, a1)) else (some (s0_1, s0_2, s0_3))
set_option maxHeartbeats 8000000 in
set_option maxRecDepth 100000 in
theorem middenref16_text_fault.calls (g : Nat) (s0_0 : List Int) (s0_1 : Int) (s0_2 : Int) (s0_3 : Int) (a1 : Int) (a2 : Int) (r1 : Int) (r2 : Int) (r3 : Int) (w0 w : World) (hI : IsS81 w0 w g s0_0 s0_1 s0_2 s0_3) (hB : Below w0.heap.size w0 w) (h : middenref16_text_fault.f s0_0 s0_1 s0_2 s0_3 a1 a2 = some (r1, r2, r3)) :
  Calls Tryd.prog 49 #[.pointer (some ⟨g, 0, none⟩), .int .i64 a1, .int .i64 a2] w fun e w' => e = .returned (.tuple #[]) ∧ IsS81 w0 w' g s0_0 r1 r2 r3 ∧ Below w0.heap.size w0 w' ∧ KeepBut w w' g none := by
 have HI0 := Aside0.mk hI
 have HK := Aside0.mk (KeepBut.refl w g none)
 have HL := Aside0.mk hB.size
 clear hI
 have HW0 := Aside0.mk hB.size
 have HB := Aside0.mk hB
 clear hB
 have H : (if s0_2 = 0 then (some (s0_1, a2, a1)) else (some (s0_1, s0_2, s0_3))) = some (r1, r2, r3) := h
 clear h
 by_cases c4 : s0_2 = 0
 ·rw [if_pos c4] at H
  have c4b0 : (s0_2 == 0) = true := beq_iff_eq.mpr c4
  have c4b1 : (s0_2 != 0) = false := bne_eq_false_iff_eq.mpr c4
  clear c4
  simp only [Option.some.injEq, Prod.mk.injEq] at H
  obtain ⟨rfl, rfl, rfl⟩ := H
  obtain ⟨ASz5_0, cSz5_0, HGz5, hgz5, HSz5_0⟩ := HI0.out
  have hcz5_0 := cellS81_0 HGz5
  have hcz5_1 := cellS81_1 HGz5
  have hcz5_2 := cellS81_2 HGz5
  have hcz5_3 := cellS81_3 HGz5
  have hfz5_1 := blk_frozen HGz5 1
  have hfz5_2 := blk_frozen HGz5 2
  have hfz5_3 := blk_frozen HGz5 3
  clear HGz5 hgz5
  go_enter Tryd.func49, Tryd.ntmps49
  go_wp2
  first | go_end0 | ((try simp only [Exit.inBlock, Exit.then]); refine bodyPost_ret (results_none rfl _ _ _) rfl ?_)
  exact ⟨by first | rfl | (simp [errW_none, errW_some] <;> rfl) | (simp [*, errW_none, errW_some] <;> rfl), by repeat (first | (with_reducible first | exact HI0.out | apply IsS81.alloc | apply IsS81.drewN | apply IsS81.drew | apply IsS81.set_1 | apply IsS81.set_2 | apply IsS81.set_3) | exact HI0.out), by repeat (first | (with_reducible first | exact HB.out | apply below_alloc | apply pw_below_drewN | apply below_drew1 | refine below_set ?_ (IsS81.ge HI0.out)) | exact HB.out), by repeat (first | (with_reducible first | exact HK.out | apply KeepBut.set_ | apply keep_drewN | apply keep_drew | apply keep_alloc) | exact HK.out)⟩
 ·rw [if_neg c4] at H
  have c4b0 : (s0_2 == 0) = false := beq_eq_false_iff_ne.mpr c4
  have c4b1 : (s0_2 != 0) = true := bne_iff_ne.mpr c4
  simp only [Option.some.injEq, Prod.mk.injEq] at H
  obtain ⟨rfl, rfl, rfl⟩ := H
  obtain ⟨ASz6_0, cSz6_0, HGz6, hgz6, HSz6_0⟩ := HI0.out
  have hcz6_0 := cellS81_0 HGz6
  have hcz6_1 := cellS81_1 HGz6
  have hcz6_2 := cellS81_2 HGz6
  have hcz6_3 := cellS81_3 HGz6
  have hfz6_1 := blk_frozen HGz6 1
  have hfz6_2 := blk_frozen HGz6 2
  have hfz6_3 := blk_frozen HGz6 3
  clear HGz6 hgz6
  go_enter Tryd.func49, Tryd.ntmps49
  go_wp2
  first | go_end0 | ((try simp only [Exit.inBlock, Exit.then]); refine bodyPost_ret (results_none rfl _ _ _) rfl ?_)
  exact ⟨by first | rfl | (simp [errW_none, errW_some] <;> rfl) | (simp [*, errW_none, errW_some] <;> rfl), by repeat (first | (with_reducible first | exact HI0.out | apply IsS81.alloc | apply IsS81.drewN | apply IsS81.drew | apply IsS81.set_1 | apply IsS81.set_2 | apply IsS81.set_3) | exact HI0.out), by repeat (first | (with_reducible first | exact HB.out | apply below_alloc | apply pw_below_drewN | apply below_drew1 | refine below_set ?_ (IsS81.ge HI0.out)) | exact HB.out), by repeat (first | (with_reducible first | exact HK.out | apply KeepBut.set_ | apply keep_drewN | apply keep_drew | apply keep_alloc) | exact HK.out)⟩

def middenref16_text_word.l0 : Nat → Int → Int → Int → List Int → Int → Int → Int → Option (Int × Int × Int × Int)
 | 0, _, _, _, _, _, _, _ => none
 | k + 1, x3, x4, x5, x1000, x1001, x1002, x1003 => if x5 < 10 then (if (wrap64 (x1001 + x5)) ≥ (x1000.length : Int) then ((middenref16_text_fault.f x1000 x1001 x1002 x1003 (x1000.length : Int) 160).bind fun bt282 => (some (0, bt282.1, bt282.2.1, bt282.2.2))) else (if 0 ≤ (wrap64 (x1001 + x5)) then (if (wrap64 (x1001 + x5)) < (x1000.length : Int) then (if (IntKind.u64.wrap (rd x1000 (wrap64 (x1001 + x5)))) < 128 then (if x5 > 0 then (if (IntKind.u64.wrap (rd x1000 (wrap64 (x1001 + x5)))) = 0 then ((middenref16_text_fault.f x1000 x1001 x1002 x1003 x1001 161).bind fun bt286 => (some (0, bt286.1, bt286.2.1, bt286.2.2))) else (if x5 = 9 then (if (IntKind.u64.wrap (rd x1000 (wrap64 (x1001 + x5)))) > 1 then ((middenref16_text_fault.f x1000 x1001 x1002 x1003 x1001 161).bind fun bt289 => (some (0, bt289.1, bt289.2.1, bt289.2.2))) else (some (IntKind.u64.wrap (x3 + (IntKind.u64.wrap ((IntKind.u64.wrap (rd x1000 (wrap64 (x1001 + x5)))) * x4))), wrap64 ((wrap64 (x1001 + x5)) + 1), x1002, x1003))) else (some (IntKind.u64.wrap (x3 + (IntKind.u64.wrap ((IntKind.u64.wrap (rd x1000 (wrap64 (x1001 + x5)))) * x4))), wrap64 ((wrap64 (x1001 + x5)) + 1), x1002, x1003)))) else (if x5 = 9 then (if (IntKind.u64.wrap (rd x1000 (wrap64 (x1001 + x5)))) > 1 then ((middenref16_text_fault.f x1000 x1001 x1002 x1003 x1001 161).bind fun bt292 => (some (0, bt292.1, bt292.2.1, bt292.2.2))) else (some (IntKind.u64.wrap (x3 + (IntKind.u64.wrap ((IntKind.u64.wrap (rd x1000 (wrap64 (x1001 + x5)))) * x4))), wrap64 ((wrap64 (x1001 + x5)) + 1), x1002, x1003))) else (some (IntKind.u64.wrap (x3 + (IntKind.u64.wrap ((IntKind.u64.wrap (rd x1000 (wrap64 (x1001 + x5)))) * x4))), wrap64 ((wrap64 (x1001 + x5)) + 1), x1002, x1003)))) else (middenref16_text_word.l0 k (IntKind.u64.wrap (x3 + (IntKind.u64.wrap ((IntKind.u64.wrap ((IntKind.u64.wrap (rd x1000 (wrap64 (x1001 + x5)))) - 128)) * x4)))) (IntKind.u64.wrap (x4 * 128)) (wrap64 (x5 + 1)) x1000 x1001 x1002 x1003)) else (none)) else (none))) else ((middenref16_text_fault.f x1000 x1001 x1002 x1003 x1001 161).bind fun bt279 => (some (0, bt279.1, bt279.2.1, bt279.2.2)))
def middenref16_text_word.f (k : Nat) (s0_0 : List Int) (s0_1 : Int) (s0_2 : Int) (s0_3 : Int) : Option (Int × Int × Int × Int) := if s0_2 = 0 then (middenref16_text_word.l0 k 0 1 0 s0_0 s0_1 s0_2 s0_3) else (some (0, s0_1, s0_2, s0_3))
set_option maxHeartbeats 8000000 in
set_option maxRecDepth 100000 in
theorem middenref16_text_word.calls (k : Nat) (g : Nat) (s0_0 : List Int) (s0_1 : Int) (s0_2 : Int) (s0_3 : Int) (r1 : Int) (r2 : Int) (r3 : Int) (r4 : Int) (w0 w : World) (hI : IsS81 w0 w g s0_0 s0_1 s0_2 s0_3) (hB : Below w0.heap.size w0 w) (h : middenref16_text_word.f k s0_0 s0_1 s0_2 s0_3 = some (r1, r2, r3, r4)) :
  Calls Tryd.prog 78 #[.pointer (some ⟨g, 0, none⟩)] w fun e w' => e = .returned (.int .u64 r1) ∧ IsS81 w0 w' g s0_0 r2 r3 r4 ∧ Below w0.heap.size w0 w' ∧ KeepBut w w' g none := by
 have HI0 := Aside0.mk hI
 have HK := Aside0.mk (KeepBut.refl w g none)
 have HL := Aside0.mk hB.size
 clear hI
 have HW0 := Aside0.mk hB.size
 have HB := Aside0.mk hB
 clear hB
 have H : (if s0_2 = 0 then (middenref16_text_word.l0 k 0 1 0 s0_0 s0_1 s0_2 s0_3) else (some (0, s0_1, s0_2, s0_3))) = some (r1, r2, r3, r4) := h
 clear h
 by_cases c2 : s0_2 = 0
 ·rw [if_pos c2] at H
  have c2b0 : (s0_2 == 0) = true := beq_iff_eq.mpr c2
  have c2b1 : (s0_2 != 0) = false := bne_eq_false_iff_eq.mpr c2
  clear c2
  have H' := Aside0.mk H
  clear H
  obtain ⟨ASz3_0, cSz3_0, HGz3, hgz3, HSz3_0⟩ := HI0.out
  have hcz3_0 := cellS81_0 HGz3
  have hcz3_1 := cellS81_1 HGz3
  have hcz3_2 := cellS81_2 HGz3
  have hcz3_3 := cellS81_3 HGz3
  have hfz3_1 := blk_frozen HGz3 1
  have hfz3_2 := blk_frozen HGz3 2
  have hfz3_3 := blk_frozen HGz3 3
  clear HGz3 hgz3
  go_enter Tryd.func78, Tryd.ntmps78
  go_wp2
  repeat (go_quiet (fail); try go_wp2)
  go_loopg [3, 4, 5] k (fun kq v3 v4 v5 w' => ∃ (x3_1 : Int) (x4_1 : Int) (x5_1 : Int) (x1001_1 : Int) (x1002_1 : Int) (x1003_1 : Int), v3 = .int .u64 x3_1 ∧ v4 = .int .u64 x4_1 ∧ v5 = .int .i64 x5_1 ∧ Aside0 (middenref16_text_word.l0 kq x3_1 x4_1 x5_1 s0_0 x1001_1 x1002_1 x1003_1 = some (r1, r2, r3, r4)) ∧ Aside0 (kq ≤ k) ∧ Aside0 (IsS81 w0 w' g s0_0 x1001_1 x1002_1 x1003_1) ∧ Aside0 (KeepBut w w' g none) ∧ Aside0 (Below w0.heap.size w0 w'))
  case atStart => exact ⟨(0), (1), (0), (s0_1), (s0_2), (s0_3), (by first | rfl | (simp; done) | (simp [*]; done)), (by first | rfl | (simp; done) | (simp [*]; done)), (by first | rfl | (simp; done) | (simp [*]; done)), H', ⟨Nat.le_refl _⟩, ⟨by repeat (first | (with_reducible first | exact HI0.out | apply IsS81.alloc | apply IsS81.drewN | apply IsS81.drew | apply IsS81.set_1 | apply IsS81.set_2 | apply IsS81.set_3) | exact HI0.out)⟩, ⟨by repeat (first | (with_reducible first | exact HK.out | apply KeepBut.set_ | apply keep_drewN | apply keep_drew | apply keep_alloc) | exact HK.out)⟩, ⟨by repeat (first | (with_reducible first | exact HB.out | apply below_alloc | apply pw_below_drewN | apply below_drew1 | refine below_set ?_ (IsS81.ge HI0.out)) | exact HB.out)⟩⟩
  case round =>
   clear H'
   try clear c2
   try clear c2b0
   try clear c2b1
   try clear p2
   try clear hcz3_0
   try clear hcz3_1
   try clear hcz3_2
   try clear hcz3_3
   try clear hfz3_1
   try clear hfz3_2
   try clear hfz3_3
   obtain ⟨x3_1, x4_1, x5_1, x1001_1, x1002_1, x1003_1, rfl, rfl, rfl, HA, HK1, HI0, HK, HB⟩ := hrel
   cases gk with
   | zero => exact absurd HA.out (by simp [middenref16_text_word.l0])
   | succ k1 =>
    have H := HA.out
    clear HA
    simp only [middenref16_text_word.l0] at H
    by_cases c4 : x5_1 < 10
    ·rw [if_pos c4] at H
     have c4b0 : decide (x5_1 < 10) = true := decide_eq_true c4
     clear c4
     by_cases c5 : (wrap64 (x1001_1 + x5_1)) ≥ (s0_0.length : Int)
     ·rw [if_pos c5] at H
      have c5b0 : decide ((s0_0.length : Int) ≤ (wrap64 (x1001_1 + x5_1))) = true := decide_eq_true c5
      clear c5
      replace H := Option.bind_eq_some_iff.mp H
      obtain ⟨⟨t282, t283, t284⟩, A60, H⟩ := H
      replace H : (some (0, t282, t283, t284)) = some (r1, r2, r3, r4) := H
      have A6 := Aside0.mk A60
      clear A60
      simp only [Option.some.injEq, Prod.mk.injEq] at H
      obtain ⟨rfl, rfl, rfl, rfl⟩ := H
      obtain ⟨ASz7_0, cSz7_0, HGz7, hgz7, HSz7_0⟩ := HI0.out
      have hcz7_0 := cellS81_0 HGz7
      have hcz7_1 := cellS81_1 HGz7
      have hcz7_2 := cellS81_2 HGz7
      have hcz7_3 := cellS81_3 HGz7
      have hfz7_1 := blk_frozen HGz7 1
      have hfz7_2 := blk_frozen HGz7 2
      have hfz7_3 := blk_frozen HGz7 3
      clear HGz7 hgz7
      go_wp2_with (first | (go_at_call 49; (with_reducible refine (middenref16_text_fault.calls g s0_0 x1001_1 x1002_1 x1003_1 (s0_0.length : Int) 160 t282 t283 t284 w0 _ ?side1 ?side2 A6.out).mono ?_); (case side1 => repeat (first | (with_reducible first | exact HI0.out | apply IsS81.alloc | apply IsS81.drewN | apply IsS81.drew | apply IsS81.set_1 | apply IsS81.set_2 | apply IsS81.set_3) | exact HI0.out)); (case side2 => repeat (first | (with_reducible first | exact HB.out | apply below_alloc | apply pw_below_drewN | apply below_drew1 | refine below_set ?_ (IsS81.ge HI0.out)) | exact HB.out)); rintro e w8 ⟨rfl, hi, hb, hk⟩; have n0_ := Aside0.mk (KeepBut.trans (by repeat (first | (with_reducible first | exact HK.out | apply KeepBut.set_ | apply keep_drewN | apply keep_drew | apply keep_alloc) | exact HK.out)) hk (.inl rfl)); have n1_ := Aside0.mk (hb); have n2_ := Aside0.mk (hi); clear HK; clear HB; clear HI0; have HK := n0_; have HB := n1_; have HI0 := n2_; clear n0_ n1_ n2_; (try clear hb); (try clear hb2); (try clear hk); (try clear hi)))
      repeat (go_quiet (first | (go_at_call 49; (with_reducible refine (middenref16_text_fault.calls g s0_0 x1001_1 x1002_1 x1003_1 (s0_0.length : Int) 160 t282 t283 t284 w0 _ ?side1 ?side2 A6.out).mono ?_); (case side1 => repeat (first | (with_reducible first | exact HI0.out | apply IsS81.alloc | apply IsS81.drewN | apply IsS81.drew | apply IsS81.set_1 | apply IsS81.set_2 | apply IsS81.set_3) | exact HI0.out)); (case side2 => repeat (first | (with_reducible first | exact HB.out | apply below_alloc | apply pw_below_drewN | apply below_drew1 | refine below_set ?_ (IsS81.ge HI0.out)) | exact HB.out)); rintro e w8 ⟨rfl, hi, hb, hk⟩; have n0_ := Aside0.mk (KeepBut.trans (by repeat (first | (with_reducible first | exact HK.out | apply KeepBut.set_ | apply keep_drewN | apply keep_drew | apply keep_alloc) | exact HK.out)) hk (.inl rfl)); have n1_ := Aside0.mk (hb); have n2_ := Aside0.mk (hi); clear HK; clear HB; clear HI0; have HK := n0_; have HB := n1_; have HI0 := n2_; clear n0_ n1_ n2_; (try clear hb); (try clear hb2); (try clear hk); (try clear hi))); try go_wp2_with (first | (go_at_call 49; (with_reducible refine (middenref16_text_fault.calls g s0_0 x1001_1 x1002_1 x1003_1 (s0_0.length : Int) 160 t282 t283 t284 w0 _ ?side1 ?side2 A6.out).mono ?_); (case side1 => repeat (first | (with_reducible first | exact HI0.out | apply IsS81.alloc | apply IsS81.drewN | apply IsS81.drew | apply IsS81.set_1 | apply IsS81.set_2 | apply IsS81.set_3) | exact HI0.out)); (case side2 => repeat (first | (with_reducible first | exact HB.out | apply below_alloc | apply pw_below_drewN | apply below_drew1 | refine below_set ?_ (IsS81.ge HI0.out)) | exact HB.out)); rintro e w8 ⟨rfl, hi, hb, hk⟩; have n0_ := Aside0.mk (KeepBut.trans (by repeat (first | (with_reducible first | exact HK.out | apply KeepBut.set_ | apply keep_drewN | apply keep_drew | apply keep_alloc) | exact HK.out)) hk (.inl rfl)); have n1_ := Aside0.mk (hb); have n2_ := Aside0.mk (hi); clear HK; clear HB; clear HI0; have HK := n0_; have HB := n1_; have HI0 := n2_; clear n0_ n1_ n2_; (try clear hb); (try clear hb2); (try clear hk); (try clear hi))))
      go_ret
      exact ⟨by first | rfl | (simp [errW_none, errW_some] <;> rfl) | (simp [*, errW_none, errW_some] <;> rfl), by repeat (first | (with_reducible first | exact HI0.out | apply IsS81.alloc | apply IsS81.drewN | apply IsS81.drew | apply IsS81.set_1 | apply IsS81.set_2 | apply IsS81.set_3) | exact HI0.out), by repeat (first | (with_reducible first | exact HB.out | apply below_alloc | apply pw_below_drewN | apply below_drew1 | refine below_set ?_ (IsS81.ge HI0.out)) | exact HB.out), by repeat (first | (with_reducible first | exact HK.out | apply KeepBut.set_ | apply keep_drewN | apply keep_drew | apply keep_alloc) | exact HK.out)⟩
     ·rw [if_neg c5] at H
      have c5b0 : decide ((s0_0.length : Int) ≤ (wrap64 (x1001_1 + x5_1))) = false := decide_eq_false c5
      clear c5
      obtain ⟨ji9, hji9⟩ : ∃ j_ : Int, (wrap64 (x1001_1 + x5_1)) = j_ := ⟨_, rfl⟩
      replace H : (if 0 ≤ (ji9) then (if (ji9) < (s0_0.length : Int) then (if (IntKind.u64.wrap (rd s0_0 (ji9))) < 128 then (if x5_1 > 0 then (if (IntKind.u64.wrap (rd s0_0 (ji9))) = 0 then ((middenref16_text_fault.f s0_0 x1001_1 x1002_1 x1003_1 x1001_1 161).bind fun bt286 => (some (0, bt286.1, bt286.2.1, bt286.2.2))) else (if x5_1 = 9 then (if (IntKind.u64.wrap (rd s0_0 (ji9))) > 1 then ((middenref16_text_fault.f s0_0 x1001_1 x1002_1 x1003_1 x1001_1 161).bind fun bt289 => (some (0, bt289.1, bt289.2.1, bt289.2.2))) else (some (IntKind.u64.wrap (x3_1 + (IntKind.u64.wrap ((IntKind.u64.wrap (rd s0_0 (ji9))) * x4_1))), wrap64 ((ji9) + 1), x1002_1, x1003_1))) else (some (IntKind.u64.wrap (x3_1 + (IntKind.u64.wrap ((IntKind.u64.wrap (rd s0_0 (ji9))) * x4_1))), wrap64 ((ji9) + 1), x1002_1, x1003_1)))) else (if x5_1 = 9 then (if (IntKind.u64.wrap (rd s0_0 (ji9))) > 1 then ((middenref16_text_fault.f s0_0 x1001_1 x1002_1 x1003_1 x1001_1 161).bind fun bt292 => (some (0, bt292.1, bt292.2.1, bt292.2.2))) else (some (IntKind.u64.wrap (x3_1 + (IntKind.u64.wrap ((IntKind.u64.wrap (rd s0_0 (ji9))) * x4_1))), wrap64 ((ji9) + 1), x1002_1, x1003_1))) else (some (IntKind.u64.wrap (x3_1 + (IntKind.u64.wrap ((IntKind.u64.wrap (rd s0_0 (ji9))) * x4_1))), wrap64 ((ji9) + 1), x1002_1, x1003_1)))) else (middenref16_text_word.l0 k1 (IntKind.u64.wrap (x3_1 + (IntKind.u64.wrap ((IntKind.u64.wrap ((IntKind.u64.wrap (rd s0_0 (ji9))) - 128)) * x4_1)))) (IntKind.u64.wrap (x4_1 * 128)) (wrap64 (x5_1 + 1)) s0_0 x1001_1 x1002_1 x1003_1)) else (none)) else (none)) = some (r1, r2, r3, r4) := by first | (rw [hji9] at H; exact H) | (simp only [hji9] at H ⊢; exact H)
      (try rw [hji9] at c5b0)
      have hji9w : (IntKind.i64.wrap (x1001_1 + x5_1)) = ji9 := (i64_w _).trans hji9
      by_cases c10 : 0 ≤ (ji9)
      ·rw [if_pos c10] at H
       have c10b0 : decide (0 ≤ (ji9)) = true := decide_eq_true c10
       clear c10
       by_cases c11 : (ji9) < (s0_0.length : Int)
       ·rw [if_pos c11] at H
        have c11b0 : decide ((ji9) < (s0_0.length : Int)) = true := decide_eq_true c11
        clear c11
        by_cases c12 : (IntKind.u64.wrap (rd s0_0 (ji9))) < 128
        ·rw [if_pos c12] at H
         have c12b0 : decide ((IntKind.u64.wrap (rd s0_0 (ji9))) < 128) = true := decide_eq_true c12
         clear c12
         by_cases c13 : x5_1 > 0
         ·rw [if_pos c13] at H
          have c13b0 : decide (0 < x5_1) = true := decide_eq_true c13
          clear c13
          by_cases c14 : (IntKind.u64.wrap (rd s0_0 (ji9))) = 0
          ·rw [if_pos c14] at H
           have c14b0 : ((IntKind.u64.wrap (rd s0_0 (ji9))) == 0) = true := beq_iff_eq.mpr c14
           have c14b1 : ((IntKind.u64.wrap (rd s0_0 (ji9))) != 0) = false := bne_eq_false_iff_eq.mpr c14
           clear c14
           replace H := Option.bind_eq_some_iff.mp H
           obtain ⟨⟨t286, t287, t288⟩, A150, H⟩ := H
           replace H : (some (0, t286, t287, t288)) = some (r1, r2, r3, r4) := H
           have A15 := Aside0.mk A150
           clear A150
           simp only [Option.some.injEq, Prod.mk.injEq] at H
           obtain ⟨rfl, rfl, rfl, rfl⟩ := H
           obtain ⟨ASz16_0, cSz16_0, HGz16, hgz16, HSz16_0⟩ := HI0.out
           have hcz16_0 := cellS81_0 HGz16
           have hcz16_1 := cellS81_1 HGz16
           have hcz16_2 := cellS81_2 HGz16
           have hcz16_3 := cellS81_3 HGz16
           have hfz16_1 := blk_frozen HGz16 1
           have hfz16_2 := blk_frozen HGz16 2
           have hfz16_3 := blk_frozen HGz16 3
           clear HGz16 hgz16
           have p285 : 0 ≤ ((ji9) : Int) := of_decide_eq_true (by first | (with_reducible assumption) | assumption)
           have q285 : (ji9) < (s0_0.length : Int) := of_decide_eq_true (by first | (with_reducible assumption) | assumption)
           obtain ⟨ad285, e285, hx285_0⟩ := Kd.at_int HSz16_0 (ji9) p285 q285
           cases e285
           replace hx285_0 := pw_cell_below HB.out hx285_0
           replace p285 := eq_true p285
           replace q285 := eq_true q285
           go_wp2_with (first | (go_at_call 49; (with_reducible refine (middenref16_text_fault.calls g s0_0 x1001_1 x1002_1 x1003_1 x1001_1 161 t286 t287 t288 w0 _ ?side1 ?side2 A15.out).mono ?_); (case side1 => repeat (first | (with_reducible first | exact HI0.out | apply IsS81.alloc | apply IsS81.drewN | apply IsS81.drew | apply IsS81.set_1 | apply IsS81.set_2 | apply IsS81.set_3) | exact HI0.out)); (case side2 => repeat (first | (with_reducible first | exact HB.out | apply below_alloc | apply pw_below_drewN | apply below_drew1 | refine below_set ?_ (IsS81.ge HI0.out)) | exact HB.out)); rintro e w17 ⟨rfl, hi, hb, hk⟩; have n0_ := Aside0.mk (KeepBut.trans (by repeat (first | (with_reducible first | exact HK.out | apply KeepBut.set_ | apply keep_drewN | apply keep_drew | apply keep_alloc) | exact HK.out)) hk (.inl rfl)); have n1_ := Aside0.mk (hb); have n2_ := Aside0.mk (hi); clear HK; clear HB; clear HI0; have HK := n0_; have HB := n1_; have HI0 := n2_; clear n0_ n1_ n2_; (try clear hb); (try clear hb2); (try clear hk); (try clear hi)))
           repeat (go_quiet (first | (go_at_call 49; (with_reducible refine (middenref16_text_fault.calls g s0_0 x1001_1 x1002_1 x1003_1 x1001_1 161 t286 t287 t288 w0 _ ?side1 ?side2 A15.out).mono ?_); (case side1 => repeat (first | (with_reducible first | exact HI0.out | apply IsS81.alloc | apply IsS81.drewN | apply IsS81.drew | apply IsS81.set_1 | apply IsS81.set_2 | apply IsS81.set_3) | exact HI0.out)); (case side2 => repeat (first | (with_reducible first | exact HB.out | apply below_alloc | apply pw_below_drewN | apply below_drew1 | refine below_set ?_ (IsS81.ge HI0.out)) | exact HB.out)); rintro e w17 ⟨rfl, hi, hb, hk⟩; have n0_ := Aside0.mk (KeepBut.trans (by repeat (first | (with_reducible first | exact HK.out | apply KeepBut.set_ | apply keep_drewN | apply keep_drew | apply keep_alloc) | exact HK.out)) hk (.inl rfl)); have n1_ := Aside0.mk (hb); have n2_ := Aside0.mk (hi); clear HK; clear HB; clear HI0; have HK := n0_; have HB := n1_; have HI0 := n2_; clear n0_ n1_ n2_; (try clear hb); (try clear hb2); (try clear hk); (try clear hi))); try go_wp2_with (first | (go_at_call 49; (with_reducible refine (middenref16_text_fault.calls g s0_0 x1001_1 x1002_1 x1003_1 x1001_1 161 t286 t287 t288 w0 _ ?side1 ?side2 A15.out).mono ?_); (case side1 => repeat (first | (with_reducible first | exact HI0.out | apply IsS81.alloc | apply IsS81.drewN | apply IsS81.drew | apply IsS81.set_1 | apply IsS81.set_2 | apply IsS81.set_3) | exact HI0.out)); (case side2 => repeat (first | (with_reducible first | exact HB.out | apply below_alloc | apply pw_below_drewN | apply below_drew1 | refine below_set ?_ (IsS81.ge HI0.out)) | exact HB.out)); rintro e w17 ⟨rfl, hi, hb, hk⟩; have n0_ := Aside0.mk (KeepBut.trans (by repeat (first | (with_reducible first | exact HK.out | apply KeepBut.set_ | apply keep_drewN | apply keep_drew | apply keep_alloc) | exact HK.out)) hk (.inl rfl)); have n1_ := Aside0.mk (hb); have n2_ := Aside0.mk (hi); clear HK; clear HB; clear HI0; have HK := n0_; have HB := n1_; have HI0 := n2_; clear n0_ n1_ n2_; (try clear hb); (try clear hb2); (try clear hk); (try clear hi))))
           go_ret
           exact ⟨by first | rfl | (simp [errW_none, errW_some] <;> rfl) | (simp only [← hji9]; first | rfl | (simp [errW_none, errW_some] <;> rfl)) | (simp [*, errW_none, errW_some] <;> rfl), by repeat (first | (with_reducible first | exact HI0.out | apply IsS81.alloc | apply IsS81.drewN | apply IsS81.drew | apply IsS81.set_1 | apply IsS81.set_2 | apply IsS81.set_3) | exact HI0.out), by repeat (first | (with_reducible first | exact HB.out | apply below_alloc | apply pw_below_drewN | apply below_drew1 | refine below_set ?_ (IsS81.ge HI0.out)) | exact HB.out), by repeat (first | (with_reducible first | exact HK.out | apply KeepBut.set_ | apply keep_drewN | apply keep_drew | apply keep_alloc) | exact HK.out)⟩
          ·rw [if_neg c14] at H
           have c14b0 : ((IntKind.u64.wrap (rd s0_0 (ji9))) == 0) = false := beq_eq_false_iff_ne.mpr c14
           have c14b1 : ((IntKind.u64.wrap (rd s0_0 (ji9))) != 0) = true := bne_iff_ne.mpr c14
           by_cases c18 : x5_1 = 9
           ·rw [if_pos c18] at H
            have c18b0 : (x5_1 == 9) = true := beq_iff_eq.mpr c18
            have c18b1 : (x5_1 != 9) = false := bne_eq_false_iff_eq.mpr c18
            clear c18
            by_cases c19 : (IntKind.u64.wrap (rd s0_0 (ji9))) > 1
            ·rw [if_pos c19] at H
             have c19b0 : decide (1 < (IntKind.u64.wrap (rd s0_0 (ji9)))) = true := decide_eq_true c19
             clear c19
             replace H := Option.bind_eq_some_iff.mp H
             obtain ⟨⟨t289, t290, t291⟩, A200, H⟩ := H
             replace H : (some (0, t289, t290, t291)) = some (r1, r2, r3, r4) := H
             have A20 := Aside0.mk A200
             clear A200
             simp only [Option.some.injEq, Prod.mk.injEq] at H
             obtain ⟨rfl, rfl, rfl, rfl⟩ := H
             obtain ⟨ASz21_0, cSz21_0, HGz21, hgz21, HSz21_0⟩ := HI0.out
             have hcz21_0 := cellS81_0 HGz21
             have hcz21_1 := cellS81_1 HGz21
             have hcz21_2 := cellS81_2 HGz21
             have hcz21_3 := cellS81_3 HGz21
             have hfz21_1 := blk_frozen HGz21 1
             have hfz21_2 := blk_frozen HGz21 2
             have hfz21_3 := blk_frozen HGz21 3
             clear HGz21 hgz21
             have p285 : 0 ≤ ((ji9) : Int) := of_decide_eq_true (by first | (with_reducible assumption) | assumption)
             have q285 : (ji9) < (s0_0.length : Int) := of_decide_eq_true (by first | (with_reducible assumption) | assumption)
             obtain ⟨ad285, e285, hx285_0⟩ := Kd.at_int HSz21_0 (ji9) p285 q285
             cases e285
             replace hx285_0 := pw_cell_below HB.out hx285_0
             replace p285 := eq_true p285
             replace q285 := eq_true q285
             go_wp2_with (first | (go_at_call 49; (with_reducible refine (middenref16_text_fault.calls g s0_0 x1001_1 x1002_1 x1003_1 x1001_1 161 t289 t290 t291 w0 _ ?side1 ?side2 A20.out).mono ?_); (case side1 => repeat (first | (with_reducible first | exact HI0.out | apply IsS81.alloc | apply IsS81.drewN | apply IsS81.drew | apply IsS81.set_1 | apply IsS81.set_2 | apply IsS81.set_3) | exact HI0.out)); (case side2 => repeat (first | (with_reducible first | exact HB.out | apply below_alloc | apply pw_below_drewN | apply below_drew1 | refine below_set ?_ (IsS81.ge HI0.out)) | exact HB.out)); rintro e w22 ⟨rfl, hi, hb, hk⟩; have n0_ := Aside0.mk (KeepBut.trans (by repeat (first | (with_reducible first | exact HK.out | apply KeepBut.set_ | apply keep_drewN | apply keep_drew | apply keep_alloc) | exact HK.out)) hk (.inl rfl)); have n1_ := Aside0.mk (hb); have n2_ := Aside0.mk (hi); clear HK; clear HB; clear HI0; have HK := n0_; have HB := n1_; have HI0 := n2_; clear n0_ n1_ n2_; (try clear hb); (try clear hb2); (try clear hk); (try clear hi)))
             repeat (go_quiet (first | (go_at_call 49; (with_reducible refine (middenref16_text_fault.calls g s0_0 x1001_1 x1002_1 x1003_1 x1001_1 161 t289 t290 t291 w0 _ ?side1 ?side2 A20.out).mono ?_); (case side1 => repeat (first | (with_reducible first | exact HI0.out | apply IsS81.alloc | apply IsS81.drewN | apply IsS81.drew | apply IsS81.set_1 | apply IsS81.set_2 | apply IsS81.set_3) | exact HI0.out)); (case side2 => repeat (first | (with_reducible first | exact HB.out | apply below_alloc | apply pw_below_drewN | apply below_drew1 | refine below_set ?_ (IsS81.ge HI0.out)) | exact HB.out)); rintro e w22 ⟨rfl, hi, hb, hk⟩; have n0_ := Aside0.mk (KeepBut.trans (by repeat (first | (with_reducible first | exact HK.out | apply KeepBut.set_ | apply keep_drewN | apply keep_drew | apply keep_alloc) | exact HK.out)) hk (.inl rfl)); have n1_ := Aside0.mk (hb); have n2_ := Aside0.mk (hi); clear HK; clear HB; clear HI0; have HK := n0_; have HB := n1_; have HI0 := n2_; clear n0_ n1_ n2_; (try clear hb); (try clear hb2); (try clear hk); (try clear hi))); try go_wp2_with (first | (go_at_call 49; (with_reducible refine (middenref16_text_fault.calls g s0_0 x1001_1 x1002_1 x1003_1 x1001_1 161 t289 t290 t291 w0 _ ?side1 ?side2 A20.out).mono ?_); (case side1 => repeat (first | (with_reducible first | exact HI0.out | apply IsS81.alloc | apply IsS81.drewN | apply IsS81.drew | apply IsS81.set_1 | apply IsS81.set_2 | apply IsS81.set_3) | exact HI0.out)); (case side2 => repeat (first | (with_reducible first | exact HB.out | apply below_alloc | apply pw_below_drewN | apply below_drew1 | refine below_set ?_ (IsS81.ge HI0.out)) | exact HB.out)); rintro e w22 ⟨rfl, hi, hb, hk⟩; have n0_ := Aside0.mk (KeepBut.trans (by repeat (first | (with_reducible first | exact HK.out | apply KeepBut.set_ | apply keep_drewN | apply keep_drew | apply keep_alloc) | exact HK.out)) hk (.inl rfl)); have n1_ := Aside0.mk (hb); have n2_ := Aside0.mk (hi); clear HK; clear HB; clear HI0; have HK := n0_; have HB := n1_; have HI0 := n2_; clear n0_ n1_ n2_; (try clear hb); (try clear hb2); (try clear hk); (try clear hi))))
             go_ret
             exact ⟨by first | rfl | (simp [errW_none, errW_some] <;> rfl) | (simp only [← hji9]; first | rfl | (simp [errW_none, errW_some] <;> rfl)) | (simp [*, errW_none, errW_some] <;> rfl), by repeat (first | (with_reducible first | exact HI0.out | apply IsS81.alloc | apply IsS81.drewN | apply IsS81.drew | apply IsS81.set_1 | apply IsS81.set_2 | apply IsS81.set_3) | exact HI0.out), by repeat (first | (with_reducible first | exact HB.out | apply below_alloc | apply pw_below_drewN | apply below_drew1 | refine below_set ?_ (IsS81.ge HI0.out)) | exact HB.out), by repeat (first | (with_reducible first | exact HK.out | apply KeepBut.set_ | apply keep_drewN | apply keep_drew | apply keep_alloc) | exact HK.out)⟩
            ·rw [if_neg c19] at H
             have c19b0 : decide (1 < (IntKind.u64.wrap (rd s0_0 (ji9)))) = false := decide_eq_false c19
             clear c19
             simp only [Option.some.injEq, Prod.mk.injEq] at H
             obtain ⟨rfl, rfl, rfl, rfl⟩ := H
             obtain ⟨ASz23_0, cSz23_0, HGz23, hgz23, HSz23_0⟩ := HI0.out
             have hcz23_0 := cellS81_0 HGz23
             have hcz23_1 := cellS81_1 HGz23
             have hcz23_2 := cellS81_2 HGz23
             have hcz23_3 := cellS81_3 HGz23
             have hfz23_1 := blk_frozen HGz23 1
             have hfz23_2 := blk_frozen HGz23 2
             have hfz23_3 := blk_frozen HGz23 3
             clear HGz23 hgz23
             have p285 : 0 ≤ ((ji9) : Int) := of_decide_eq_true (by first | (with_reducible assumption) | assumption)
             have q285 : (ji9) < (s0_0.length : Int) := of_decide_eq_true (by first | (with_reducible assumption) | assumption)
             obtain ⟨ad285, e285, hx285_0⟩ := Kd.at_int HSz23_0 (ji9) p285 q285
             cases e285
             replace hx285_0 := pw_cell_below HB.out hx285_0
             replace p285 := eq_true p285
             replace q285 := eq_true q285
             go_wp2
             repeat (go_quiet (fail); try go_wp2)
             go_ret
             exact ⟨by first | rfl | (simp [errW_none, errW_some] <;> rfl) | (simp only [← hji9]; first | rfl | (simp [errW_none, errW_some] <;> rfl)) | (simp [*, errW_none, errW_some] <;> rfl), by repeat (first | (with_reducible first | exact HI0.out | apply IsS81.alloc | apply IsS81.drewN | apply IsS81.drew | apply IsS81.set_1 | apply IsS81.set_2 | apply IsS81.set_3) | exact HI0.out), by repeat (first | (with_reducible first | exact HB.out | apply below_alloc | apply pw_below_drewN | apply below_drew1 | refine below_set ?_ (IsS81.ge HI0.out)) | exact HB.out), by repeat (first | (with_reducible first | exact HK.out | apply KeepBut.set_ | apply keep_drewN | apply keep_drew | apply keep_alloc) | exact HK.out)⟩
           ·rw [if_neg c18] at H
            have c18b0 : (x5_1 == 9) = false := beq_eq_false_iff_ne.mpr c18
            have c18b1 : (x5_1 != 9) = true := bne_iff_ne.mpr c18
            simp only [Option.some.injEq, Prod.mk.injEq] at H
            obtain ⟨rfl, rfl, rfl, rfl⟩ := H
            obtain ⟨ASz24_0, cSz24_0, HGz24, hgz24, HSz24_0⟩ := HI0.out
            have hcz24_0 := cellS81_0 HGz24
            have hcz24_1 := cellS81_1 HGz24
            have hcz24_2 := cellS81_2 HGz24
            have hcz24_3 := cellS81_3 HGz24
            have hfz24_1 := blk_frozen HGz24 1
            have hfz24_2 := blk_frozen HGz24 2
            have hfz24_3 := blk_frozen HGz24 3
            clear HGz24 hgz24
            have p285 : 0 ≤ ((ji9) : Int) := of_decide_eq_true (by first | (with_reducible assumption) | assumption)
            have q285 : (ji9) < (s0_0.length : Int) := of_decide_eq_true (by first | (with_reducible assumption) | assumption)
            obtain ⟨ad285, e285, hx285_0⟩ := Kd.at_int HSz24_0 (ji9) p285 q285
            cases e285
            replace hx285_0 := pw_cell_below HB.out hx285_0
            replace p285 := eq_true p285
            replace q285 := eq_true q285
            go_wp2
            repeat (go_quiet (fail); try go_wp2)
            go_ret
            exact ⟨by first | rfl | (simp [errW_none, errW_some] <;> rfl) | (simp only [← hji9]; first | rfl | (simp [errW_none, errW_some] <;> rfl)) | (simp [*, errW_none, errW_some] <;> rfl), by repeat (first | (with_reducible first | exact HI0.out | apply IsS81.alloc | apply IsS81.drewN | apply IsS81.drew | apply IsS81.set_1 | apply IsS81.set_2 | apply IsS81.set_3) | exact HI0.out), by repeat (first | (with_reducible first | exact HB.out | apply below_alloc | apply pw_below_drewN | apply below_drew1 | refine below_set ?_ (IsS81.ge HI0.out)) | exact HB.out), by repeat (first | (with_reducible first | exact HK.out | apply KeepBut.set_ | apply keep_drewN | apply keep_drew | apply keep_alloc) | exact HK.out)⟩
         ·rw [if_neg c13] at H
          have c13b0 : decide (0 < x5_1) = false := decide_eq_false c13
          clear c13
          by_cases c25 : x5_1 = 9
          ·rw [if_pos c25] at H
           have c25b0 : (x5_1 == 9) = true := beq_iff_eq.mpr c25
           have c25b1 : (x5_1 != 9) = false := bne_eq_false_iff_eq.mpr c25
           clear c25
           by_cases c26 : (IntKind.u64.wrap (rd s0_0 (ji9))) > 1
           ·rw [if_pos c26] at H
            have c26b0 : decide (1 < (IntKind.u64.wrap (rd s0_0 (ji9)))) = true := decide_eq_true c26
            clear c26
            replace H := Option.bind_eq_some_iff.mp H
            obtain ⟨⟨t292, t293, t294⟩, A270, H⟩ := H
            replace H : (some (0, t292, t293, t294)) = some (r1, r2, r3, r4) := H
            have A27 := Aside0.mk A270
            clear A270
            simp only [Option.some.injEq, Prod.mk.injEq] at H
            obtain ⟨rfl, rfl, rfl, rfl⟩ := H
            obtain ⟨ASz28_0, cSz28_0, HGz28, hgz28, HSz28_0⟩ := HI0.out
            have hcz28_0 := cellS81_0 HGz28
            have hcz28_1 := cellS81_1 HGz28
            have hcz28_2 := cellS81_2 HGz28
            have hcz28_3 := cellS81_3 HGz28
            have hfz28_1 := blk_frozen HGz28 1
            have hfz28_2 := blk_frozen HGz28 2
            have hfz28_3 := blk_frozen HGz28 3
            clear HGz28 hgz28
            have p285 : 0 ≤ ((ji9) : Int) := of_decide_eq_true (by first | (with_reducible assumption) | assumption)
            have q285 : (ji9) < (s0_0.length : Int) := of_decide_eq_true (by first | (with_reducible assumption) | assumption)
            obtain ⟨ad285, e285, hx285_0⟩ := Kd.at_int HSz28_0 (ji9) p285 q285
            cases e285
            replace hx285_0 := pw_cell_below HB.out hx285_0
            replace p285 := eq_true p285
            replace q285 := eq_true q285
            go_wp2_with (first | (go_at_call 49; (with_reducible refine (middenref16_text_fault.calls g s0_0 x1001_1 x1002_1 x1003_1 x1001_1 161 t292 t293 t294 w0 _ ?side1 ?side2 A27.out).mono ?_); (case side1 => repeat (first | (with_reducible first | exact HI0.out | apply IsS81.alloc | apply IsS81.drewN | apply IsS81.drew | apply IsS81.set_1 | apply IsS81.set_2 | apply IsS81.set_3) | exact HI0.out)); (case side2 => repeat (first | (with_reducible first | exact HB.out | apply below_alloc | apply pw_below_drewN | apply below_drew1 | refine below_set ?_ (IsS81.ge HI0.out)) | exact HB.out)); rintro e w29 ⟨rfl, hi, hb, hk⟩; have n0_ := Aside0.mk (KeepBut.trans (by repeat (first | (with_reducible first | exact HK.out | apply KeepBut.set_ | apply keep_drewN | apply keep_drew | apply keep_alloc) | exact HK.out)) hk (.inl rfl)); have n1_ := Aside0.mk (hb); have n2_ := Aside0.mk (hi); clear HK; clear HB; clear HI0; have HK := n0_; have HB := n1_; have HI0 := n2_; clear n0_ n1_ n2_; (try clear hb); (try clear hb2); (try clear hk); (try clear hi)))
            repeat (go_quiet (first | (go_at_call 49; (with_reducible refine (middenref16_text_fault.calls g s0_0 x1001_1 x1002_1 x1003_1 x1001_1 161 t292 t293 t294 w0 _ ?side1 ?side2 A27.out).mono ?_); (case side1 => repeat (first | (with_reducible first | exact HI0.out | apply IsS81.alloc | apply IsS81.drewN | apply IsS81.drew | apply IsS81.set_1 | apply IsS81.set_2 | apply IsS81.set_3) | exact HI0.out)); (case side2 => repeat (first | (with_reducible first | exact HB.out | apply below_alloc | apply pw_below_drewN | apply below_drew1 | refine below_set ?_ (IsS81.ge HI0.out)) | exact HB.out)); rintro e w29 ⟨rfl, hi, hb, hk⟩; have n0_ := Aside0.mk (KeepBut.trans (by repeat (first | (with_reducible first | exact HK.out | apply KeepBut.set_ | apply keep_drewN | apply keep_drew | apply keep_alloc) | exact HK.out)) hk (.inl rfl)); have n1_ := Aside0.mk (hb); have n2_ := Aside0.mk (hi); clear HK; clear HB; clear HI0; have HK := n0_; have HB := n1_; have HI0 := n2_; clear n0_ n1_ n2_; (try clear hb); (try clear hb2); (try clear hk); (try clear hi))); try go_wp2_with (first | (go_at_call 49; (with_reducible refine (middenref16_text_fault.calls g s0_0 x1001_1 x1002_1 x1003_1 x1001_1 161 t292 t293 t294 w0 _ ?side1 ?side2 A27.out).mono ?_); (case side1 => repeat (first | (with_reducible first | exact HI0.out | apply IsS81.alloc | apply IsS81.drewN | apply IsS81.drew | apply IsS81.set_1 | apply IsS81.set_2 | apply IsS81.set_3) | exact HI0.out)); (case side2 => repeat (first | (with_reducible first | exact HB.out | apply below_alloc | apply pw_below_drewN | apply below_drew1 | refine below_set ?_ (IsS81.ge HI0.out)) | exact HB.out)); rintro e w29 ⟨rfl, hi, hb, hk⟩; have n0_ := Aside0.mk (KeepBut.trans (by repeat (first | (with_reducible first | exact HK.out | apply KeepBut.set_ | apply keep_drewN | apply keep_drew | apply keep_alloc) | exact HK.out)) hk (.inl rfl)); have n1_ := Aside0.mk (hb); have n2_ := Aside0.mk (hi); clear HK; clear HB; clear HI0; have HK := n0_; have HB := n1_; have HI0 := n2_; clear n0_ n1_ n2_; (try clear hb); (try clear hb2); (try clear hk); (try clear hi))))
            go_ret
            exact ⟨by first | rfl | (simp [errW_none, errW_some] <;> rfl) | (simp only [← hji9]; first | rfl | (simp [errW_none, errW_some] <;> rfl)) | (simp [*, errW_none, errW_some] <;> rfl), by repeat (first | (with_reducible first | exact HI0.out | apply IsS81.alloc | apply IsS81.drewN | apply IsS81.drew | apply IsS81.set_1 | apply IsS81.set_2 | apply IsS81.set_3) | exact HI0.out), by repeat (first | (with_reducible first | exact HB.out | apply below_alloc | apply pw_below_drewN | apply below_drew1 | refine below_set ?_ (IsS81.ge HI0.out)) | exact HB.out), by repeat (first | (with_reducible first | exact HK.out | apply KeepBut.set_ | apply keep_drewN | apply keep_drew | apply keep_alloc) | exact HK.out)⟩
           ·rw [if_neg c26] at H
            have c26b0 : decide (1 < (IntKind.u64.wrap (rd s0_0 (ji9)))) = false := decide_eq_false c26
            clear c26
            simp only [Option.some.injEq, Prod.mk.injEq] at H
            obtain ⟨rfl, rfl, rfl, rfl⟩ := H
            obtain ⟨ASz30_0, cSz30_0, HGz30, hgz30, HSz30_0⟩ := HI0.out
            have hcz30_0 := cellS81_0 HGz30
            have hcz30_1 := cellS81_1 HGz30
            have hcz30_2 := cellS81_2 HGz30
            have hcz30_3 := cellS81_3 HGz30
            have hfz30_1 := blk_frozen HGz30 1
            have hfz30_2 := blk_frozen HGz30 2
            have hfz30_3 := blk_frozen HGz30 3
            clear HGz30 hgz30
            have p285 : 0 ≤ ((ji9) : Int) := of_decide_eq_true (by first | (with_reducible assumption) | assumption)
            have q285 : (ji9) < (s0_0.length : Int) := of_decide_eq_true (by first | (with_reducible assumption) | assumption)
            obtain ⟨ad285, e285, hx285_0⟩ := Kd.at_int HSz30_0 (ji9) p285 q285
            cases e285
            replace hx285_0 := pw_cell_below HB.out hx285_0
            replace p285 := eq_true p285
            replace q285 := eq_true q285
            go_wp2
            repeat (go_quiet (fail); try go_wp2)
            go_ret
            exact ⟨by first | rfl | (simp [errW_none, errW_some] <;> rfl) | (simp only [← hji9]; first | rfl | (simp [errW_none, errW_some] <;> rfl)) | (simp [*, errW_none, errW_some] <;> rfl), by repeat (first | (with_reducible first | exact HI0.out | apply IsS81.alloc | apply IsS81.drewN | apply IsS81.drew | apply IsS81.set_1 | apply IsS81.set_2 | apply IsS81.set_3) | exact HI0.out), by repeat (first | (with_reducible first | exact HB.out | apply below_alloc | apply pw_below_drewN | apply below_drew1 | refine below_set ?_ (IsS81.ge HI0.out)) | exact HB.out), by repeat (first | (with_reducible first | exact HK.out | apply KeepBut.set_ | apply keep_drewN | apply keep_drew | apply keep_alloc) | exact HK.out)⟩
          ·rw [if_neg c25] at H
           have c25b0 : (x5_1 == 9) = false := beq_eq_false_iff_ne.mpr c25
           have c25b1 : (x5_1 != 9) = true := bne_iff_ne.mpr c25
           simp only [Option.some.injEq, Prod.mk.injEq] at H
           obtain ⟨rfl, rfl, rfl, rfl⟩ := H
           obtain ⟨ASz31_0, cSz31_0, HGz31, hgz31, HSz31_0⟩ := HI0.out
           have hcz31_0 := cellS81_0 HGz31
           have hcz31_1 := cellS81_1 HGz31
           have hcz31_2 := cellS81_2 HGz31
           have hcz31_3 := cellS81_3 HGz31
           have hfz31_1 := blk_frozen HGz31 1
           have hfz31_2 := blk_frozen HGz31 2
           have hfz31_3 := blk_frozen HGz31 3
           clear HGz31 hgz31
           have p285 : 0 ≤ ((ji9) : Int) := of_decide_eq_true (by first | (with_reducible assumption) | assumption)
           have q285 : (ji9) < (s0_0.length : Int) := of_decide_eq_true (by first | (with_reducible assumption) | assumption)
           obtain ⟨ad285, e285, hx285_0⟩ := Kd.at_int HSz31_0 (ji9) p285 q285
           cases e285
           replace hx285_0 := pw_cell_below HB.out hx285_0
           replace p285 := eq_true p285
           replace q285 := eq_true q285
           go_wp2
           repeat (go_quiet (fail); try go_wp2)
           go_ret
           exact ⟨by first | rfl | (simp [errW_none, errW_some] <;> rfl) | (simp only [← hji9]; first | rfl | (simp [errW_none, errW_some] <;> rfl)) | (simp [*, errW_none, errW_some] <;> rfl), by repeat (first | (with_reducible first | exact HI0.out | apply IsS81.alloc | apply IsS81.drewN | apply IsS81.drew | apply IsS81.set_1 | apply IsS81.set_2 | apply IsS81.set_3) | exact HI0.out), by repeat (first | (with_reducible first | exact HB.out | apply below_alloc | apply pw_below_drewN | apply below_drew1 | refine below_set ?_ (IsS81.ge HI0.out)) | exact HB.out), by repeat (first | (with_reducible first | exact HK.out | apply KeepBut.set_ | apply keep_drewN | apply keep_drew | apply keep_alloc) | exact HK.out)⟩
        ·rw [if_neg c12] at H
         have c12b0 : decide ((IntKind.u64.wrap (rd s0_0 (ji9))) < 128) = false := decide_eq_false c12
         clear c12
         have H' := Aside0.mk H
         clear H
         obtain ⟨ASz32_0, cSz32_0, HGz32, hgz32, HSz32_0⟩ := HI0.out
         have hcz32_0 := cellS81_0 HGz32
         have hcz32_1 := cellS81_1 HGz32
         have hcz32_2 := cellS81_2 HGz32
         have hcz32_3 := cellS81_3 HGz32
         have hfz32_1 := blk_frozen HGz32 1
         have hfz32_2 := blk_frozen HGz32 2
         have hfz32_3 := blk_frozen HGz32 3
         clear HGz32 hgz32
         have p285 : 0 ≤ ((ji9) : Int) := of_decide_eq_true (by first | (with_reducible assumption) | assumption)
         have q285 : (ji9) < (s0_0.length : Int) := of_decide_eq_true (by first | (with_reducible assumption) | assumption)
         obtain ⟨ad285, e285, hx285_0⟩ := Kd.at_int HSz32_0 (ji9) p285 q285
         cases e285
         replace hx285_0 := pw_cell_below HB.out hx285_0
         replace p285 := eq_true p285
         replace q285 := eq_true q285
         go_wp2
         repeat (go_quiet (fail); try go_wp2)
         go_roundg k1
         case measure => have := HK1.out; omega
         case rel => exact ⟨(IntKind.u64.wrap (x3_1 + (IntKind.u64.wrap ((IntKind.u64.wrap ((IntKind.u64.wrap (rd s0_0 (ji9))) - 128)) * x4_1)))), (IntKind.u64.wrap (x4_1 * 128)), (wrap64 (x5_1 + 1)), (x1001_1), (x1002_1), (x1003_1), (by first | rfl | (simp; done) | (simp only [← hji9] <;> (first | rfl | simp)) | (simp [*]; done)), (by first | rfl | (simp; done) | (simp [*]; done)), (by first | rfl | (simp; done) | (simp [*]; done)), H', ⟨by have := HK1.out; omega⟩, ⟨by repeat (first | (with_reducible first | exact HI0.out | apply IsS81.alloc | apply IsS81.drewN | apply IsS81.drew | apply IsS81.set_1 | apply IsS81.set_2 | apply IsS81.set_3) | exact HI0.out)⟩, ⟨by repeat (first | (with_reducible first | exact HK.out | apply KeepBut.set_ | apply keep_drewN | apply keep_drew | apply keep_alloc) | exact HK.out)⟩, ⟨by repeat (first | (with_reducible first | exact HB.out | apply below_alloc | apply pw_below_drewN | apply below_drew1 | refine below_set ?_ (IsS81.ge HI0.out)) | exact HB.out)⟩⟩
       ·rw [if_neg c11] at H
        exact absurd H (by simp)
      ·rw [if_neg c10] at H
       exact absurd H (by simp)
    ·rw [if_neg c4] at H
     have c4b0 : decide (x5_1 < 10) = false := decide_eq_false c4
     clear c4
     replace H := Option.bind_eq_some_iff.mp H
     obtain ⟨⟨t279, t280, t281⟩, A330, H⟩ := H
     replace H : (some (0, t279, t280, t281)) = some (r1, r2, r3, r4) := H
     have A33 := Aside0.mk A330
     clear A330
     simp only [Option.some.injEq, Prod.mk.injEq] at H
     obtain ⟨rfl, rfl, rfl, rfl⟩ := H
     obtain ⟨ASz34_0, cSz34_0, HGz34, hgz34, HSz34_0⟩ := HI0.out
     have hcz34_0 := cellS81_0 HGz34
     have hcz34_1 := cellS81_1 HGz34
     have hcz34_2 := cellS81_2 HGz34
     have hcz34_3 := cellS81_3 HGz34
     have hfz34_1 := blk_frozen HGz34 1
     have hfz34_2 := blk_frozen HGz34 2
     have hfz34_3 := blk_frozen HGz34 3
     clear HGz34 hgz34
     go_wp2_with (first | (go_at_call 49; (with_reducible refine (middenref16_text_fault.calls g s0_0 x1001_1 x1002_1 x1003_1 x1001_1 161 t279 t280 t281 w0 _ ?side1 ?side2 A33.out).mono ?_); (case side1 => repeat (first | (with_reducible first | exact HI0.out | apply IsS81.alloc | apply IsS81.drewN | apply IsS81.drew | apply IsS81.set_1 | apply IsS81.set_2 | apply IsS81.set_3) | exact HI0.out)); (case side2 => repeat (first | (with_reducible first | exact HB.out | apply below_alloc | apply pw_below_drewN | apply below_drew1 | refine below_set ?_ (IsS81.ge HI0.out)) | exact HB.out)); rintro e w35 ⟨rfl, hi, hb, hk⟩; have n0_ := Aside0.mk (KeepBut.trans (by repeat (first | (with_reducible first | exact HK.out | apply KeepBut.set_ | apply keep_drewN | apply keep_drew | apply keep_alloc) | exact HK.out)) hk (.inl rfl)); have n1_ := Aside0.mk (hb); have n2_ := Aside0.mk (hi); clear HK; clear HB; clear HI0; have HK := n0_; have HB := n1_; have HI0 := n2_; clear n0_ n1_ n2_; (try clear hb); (try clear hb2); (try clear hk); (try clear hi)))
     repeat (go_quiet (first | (go_at_call 49; (with_reducible refine (middenref16_text_fault.calls g s0_0 x1001_1 x1002_1 x1003_1 x1001_1 161 t279 t280 t281 w0 _ ?side1 ?side2 A33.out).mono ?_); (case side1 => repeat (first | (with_reducible first | exact HI0.out | apply IsS81.alloc | apply IsS81.drewN | apply IsS81.drew | apply IsS81.set_1 | apply IsS81.set_2 | apply IsS81.set_3) | exact HI0.out)); (case side2 => repeat (first | (with_reducible first | exact HB.out | apply below_alloc | apply pw_below_drewN | apply below_drew1 | refine below_set ?_ (IsS81.ge HI0.out)) | exact HB.out)); rintro e w35 ⟨rfl, hi, hb, hk⟩; have n0_ := Aside0.mk (KeepBut.trans (by repeat (first | (with_reducible first | exact HK.out | apply KeepBut.set_ | apply keep_drewN | apply keep_drew | apply keep_alloc) | exact HK.out)) hk (.inl rfl)); have n1_ := Aside0.mk (hb); have n2_ := Aside0.mk (hi); clear HK; clear HB; clear HI0; have HK := n0_; have HB := n1_; have HI0 := n2_; clear n0_ n1_ n2_; (try clear hb); (try clear hb2); (try clear hk); (try clear hi))); try go_wp2_with (first | (go_at_call 49; (with_reducible refine (middenref16_text_fault.calls g s0_0 x1001_1 x1002_1 x1003_1 x1001_1 161 t279 t280 t281 w0 _ ?side1 ?side2 A33.out).mono ?_); (case side1 => repeat (first | (with_reducible first | exact HI0.out | apply IsS81.alloc | apply IsS81.drewN | apply IsS81.drew | apply IsS81.set_1 | apply IsS81.set_2 | apply IsS81.set_3) | exact HI0.out)); (case side2 => repeat (first | (with_reducible first | exact HB.out | apply below_alloc | apply pw_below_drewN | apply below_drew1 | refine below_set ?_ (IsS81.ge HI0.out)) | exact HB.out)); rintro e w35 ⟨rfl, hi, hb, hk⟩; have n0_ := Aside0.mk (KeepBut.trans (by repeat (first | (with_reducible first | exact HK.out | apply KeepBut.set_ | apply keep_drewN | apply keep_drew | apply keep_alloc) | exact HK.out)) hk (.inl rfl)); have n1_ := Aside0.mk (hb); have n2_ := Aside0.mk (hi); clear HK; clear HB; clear HI0; have HK := n0_; have HB := n1_; have HI0 := n2_; clear n0_ n1_ n2_; (try clear hb); (try clear hb2); (try clear hk); (try clear hi))))
     go_ret
     exact ⟨by first | rfl | (simp [errW_none, errW_some] <;> rfl) | (simp [*, errW_none, errW_some] <;> rfl), by repeat (first | (with_reducible first | exact HI0.out | apply IsS81.alloc | apply IsS81.drewN | apply IsS81.drew | apply IsS81.set_1 | apply IsS81.set_2 | apply IsS81.set_3) | exact HI0.out), by repeat (first | (with_reducible first | exact HB.out | apply below_alloc | apply pw_below_drewN | apply below_drew1 | refine below_set ?_ (IsS81.ge HI0.out)) | exact HB.out), by repeat (first | (with_reducible first | exact HK.out | apply KeepBut.set_ | apply keep_drewN | apply keep_drew | apply keep_alloc) | exact HK.out)⟩
 ·rw [if_neg c2] at H
  have c2b0 : (s0_2 == 0) = false := beq_eq_false_iff_ne.mpr c2
  have c2b1 : (s0_2 != 0) = true := bne_iff_ne.mpr c2
  simp only [Option.some.injEq, Prod.mk.injEq] at H
  obtain ⟨rfl, rfl, rfl, rfl⟩ := H
  obtain ⟨ASz36_0, cSz36_0, HGz36, hgz36, HSz36_0⟩ := HI0.out
  have hcz36_0 := cellS81_0 HGz36
  have hcz36_1 := cellS81_1 HGz36
  have hcz36_2 := cellS81_2 HGz36
  have hcz36_3 := cellS81_3 HGz36
  have hfz36_1 := blk_frozen HGz36 1
  have hfz36_2 := blk_frozen HGz36 2
  have hfz36_3 := blk_frozen HGz36 3
  clear HGz36 hgz36
  go_enter Tryd.func78, Tryd.ntmps78
  go_wp2
  repeat (go_quiet (fail); try go_wp2)
  go_ret
  exact ⟨by first | rfl | (simp [errW_none, errW_some] <;> rfl) | (simp [*, errW_none, errW_some] <;> rfl), by repeat (first | (with_reducible first | exact HI0.out | apply IsS81.alloc | apply IsS81.drewN | apply IsS81.drew | apply IsS81.set_1 | apply IsS81.set_2 | apply IsS81.set_3) | exact HI0.out), by repeat (first | (with_reducible first | exact HB.out | apply below_alloc | apply pw_below_drewN | apply below_drew1 | refine below_set ?_ (IsS81.ge HI0.out)) | exact HB.out), by repeat (first | (with_reducible first | exact HK.out | apply KeepBut.set_ | apply keep_drewN | apply keep_drew | apply keep_alloc) | exact HK.out)⟩

def middenref16_text_number.f (k : Nat) (s0_0 : List Int) (s0_1 : Int) (s0_2 : Int) (s0_3 : Int) : Option (Int × Int × Int × Int) := (middenref16_text_word.f k s0_0 s0_1 s0_2 s0_3).bind fun bt295 => (if bt295.2.2.1 = 0 then (if bt295.1 > 4611686018427387905 then ((middenref16_text_fault.f s0_0 bt295.2.1 bt295.2.2.1 bt295.2.2.2 s0_1 161).bind fun bt299 => (some (0, bt299.1, bt299.2.1, bt299.2.2))) else (some (bt295.1, bt295.2.1, bt295.2.2.1, bt295.2.2.2))) else (some (bt295.1, bt295.2.1, bt295.2.2.1, bt295.2.2.2)))
set_option maxHeartbeats 8000000 in
set_option maxRecDepth 100000 in
theorem middenref16_text_number.calls (k : Nat) (g : Nat) (s0_0 : List Int) (s0_1 : Int) (s0_2 : Int) (s0_3 : Int) (r1 : Int) (r2 : Int) (r3 : Int) (r4 : Int) (w0 w : World) (hI : IsS81 w0 w g s0_0 s0_1 s0_2 s0_3) (hB : Below w0.heap.size w0 w) (h : middenref16_text_number.f k s0_0 s0_1 s0_2 s0_3 = some (r1, r2, r3, r4)) :
  Calls Tryd.prog 50 #[.pointer (some ⟨g, 0, none⟩)] w fun e w' => e = .returned (.int .u64 r1) ∧ IsS81 w0 w' g s0_0 r2 r3 r4 ∧ Below w0.heap.size w0 w' ∧ KeepBut w w' g none := by
 have HI0 := Aside0.mk hI
 have HK := Aside0.mk (KeepBut.refl w g none)
 have HL := Aside0.mk hB.size
 clear hI
 have HW0 := Aside0.mk hB.size
 have HB := Aside0.mk hB
 clear hB
 have H : ((middenref16_text_word.f k s0_0 s0_1 s0_2 s0_3).bind fun bt295 => (if bt295.2.2.1 = 0 then (if bt295.1 > 4611686018427387905 then ((middenref16_text_fault.f s0_0 bt295.2.1 bt295.2.2.1 bt295.2.2.2 s0_1 161).bind fun bt299 => (some (0, bt299.1, bt299.2.1, bt299.2.2))) else (some (bt295.1, bt295.2.1, bt295.2.2.1, bt295.2.2.2))) else (some (bt295.1, bt295.2.1, bt295.2.2.1, bt295.2.2.2)))) = some (r1, r2, r3, r4) := h
 clear h
 replace H := Option.bind_eq_some_iff.mp H
 obtain ⟨⟨t295, t296, t297, t298⟩, A20, H⟩ := H
 replace H : (if t297 = 0 then (if t295 > 4611686018427387905 then ((middenref16_text_fault.f s0_0 t296 t297 t298 s0_1 161).bind fun bt299 => (some (0, bt299.1, bt299.2.1, bt299.2.2))) else (some (t295, t296, t297, t298))) else (some (t295, t296, t297, t298))) = some (r1, r2, r3, r4) := H
 have A2 := Aside0.mk A20
 clear A20
 by_cases c3 : t297 = 0
 ·rw [if_pos c3] at H
  have c3b0 : (t297 == 0) = true := beq_iff_eq.mpr c3
  have c3b1 : (t297 != 0) = false := bne_eq_false_iff_eq.mpr c3
  clear c3
  by_cases c4 : t295 > 4611686018427387905
  ·rw [if_pos c4] at H
   have c4b0 : decide (4611686018427387905 < t295) = true := decide_eq_true c4
   clear c4
   replace H := Option.bind_eq_some_iff.mp H
   obtain ⟨⟨t299, t300, t301⟩, A50, H⟩ := H
   replace H : (some (0, t299, t300, t301)) = some (r1, r2, r3, r4) := H
   have A5 := Aside0.mk A50
   clear A50
   simp only [Option.some.injEq, Prod.mk.injEq] at H
   obtain ⟨rfl, rfl, rfl, rfl⟩ := H
   obtain ⟨ASz6_0, cSz6_0, HGz6, hgz6, HSz6_0⟩ := HI0.out
   have hcz6_0 := cellS81_0 HGz6
   have hcz6_1 := cellS81_1 HGz6
   have hcz6_2 := cellS81_2 HGz6
   have hcz6_3 := cellS81_3 HGz6
   have hfz6_1 := blk_frozen HGz6 1
   have hfz6_2 := blk_frozen HGz6 2
   have hfz6_3 := blk_frozen HGz6 3
   clear HGz6 hgz6
   go_enter Tryd.func50, Tryd.ntmps50
   go_wp2_with (first | ((with_reducible refine gate_callee (f := 78) rfl ?_); refine goesL_ (some 10) rfl rfl Tryd.func78 (by kernel_rfl) rfl #[.pointer (some ⟨g, 0, none⟩)] rfl (by (try simp only [List.map_toArray, List.map_cons, List.map_nil]); first | done | rfl | (simp only [List.length_drop, List.length_take]; rfl)) ?_; (with_reducible refine (middenref16_text_word.calls k g s0_0 s0_1 s0_2 s0_3 t295 t296 t297 t298 w0 _ ?side1 ?side2 A2.out).mono ?_); (case side1 => repeat (first | (with_reducible first | exact HI0.out | apply IsS81.alloc | apply IsS81.drewN | apply IsS81.drew | apply IsS81.set_1 | apply IsS81.set_2 | apply IsS81.set_3) | exact HI0.out)); (case side2 => repeat (first | (with_reducible first | exact HB.out | apply below_alloc | apply pw_below_drewN | apply below_drew1 | refine below_set ?_ (IsS81.ge HI0.out)) | exact HB.out)); rintro e w7 ⟨rfl, hi, hb, hk⟩; refine ⟨_, rfl, ?_⟩; have n0_ := Aside0.mk (KeepBut.trans (by repeat (first | (with_reducible first | exact HK.out | apply KeepBut.set_ | apply keep_drewN | apply keep_drew | apply keep_alloc) | exact HK.out)) hk (.inl rfl)); have n1_ := Aside0.mk (hb); have n2_ := Aside0.mk (hi); clear HK; clear HB; clear HI0; have HK := n0_; have HB := n1_; have HI0 := n2_; clear n0_ n1_ n2_; (try clear hb); (try clear hb2); (try clear hk); (try clear hi); obtain ⟨ASz8_0, cSz8_0, HGz8, hgz8, HSz8_0⟩ := HI0.out; have hcz8_0 := cellS81_0 HGz8; have hcz8_1 := cellS81_1 HGz8; have hcz8_2 := cellS81_2 HGz8; have hcz8_3 := cellS81_3 HGz8; have hfz8_1 := blk_frozen HGz8 1; have hfz8_2 := blk_frozen HGz8 2; have hfz8_3 := blk_frozen HGz8 3; clear HGz8 hgz8) | ((with_reducible refine gate_callee (f := 49) rfl ?_); refine goesL_ (some 22) rfl rfl Tryd.func49 (by kernel_rfl) rfl #[.pointer (some ⟨g, 0, none⟩), .int .i64 s0_1, .int .i64 161] rfl (by (try simp only [List.map_toArray, List.map_cons, List.map_nil]); first | done | rfl | (simp only [List.length_drop, List.length_take]; rfl)) ?_; (with_reducible refine (middenref16_text_fault.calls g s0_0 t296 t297 t298 s0_1 161 t299 t300 t301 w0 _ ?side1 ?side2 A5.out).mono ?_); (case side1 => repeat (first | (with_reducible first | exact HI0.out | apply IsS81.alloc | apply IsS81.drewN | apply IsS81.drew | apply IsS81.set_1 | apply IsS81.set_2 | apply IsS81.set_3) | exact HI0.out)); (case side2 => repeat (first | (with_reducible first | exact HB.out | apply below_alloc | apply pw_below_drewN | apply below_drew1 | refine below_set ?_ (IsS81.ge HI0.out)) | exact HB.out)); rintro e w9 ⟨rfl, hi, hb, hk⟩; refine ⟨_, rfl, ?_⟩; have n0_ := Aside0.mk (KeepBut.trans (by repeat (first | (with_reducible first | exact HK.out | apply KeepBut.set_ | apply keep_drewN | apply keep_drew | apply keep_alloc) | exact HK.out)) hk (.inl rfl)); have n1_ := Aside0.mk (hb); have n2_ := Aside0.mk (hi); clear HK; clear HB; clear HI0; have HK := n0_; have HB := n1_; have HI0 := n2_; clear n0_ n1_ n2_; (try clear hb); (try clear hb2); (try clear hk); (try clear hi)))
   go_ret
   exact ⟨by first | rfl | (simp [errW_none, errW_some] <;> rfl) | (simp [*, errW_none, errW_some] <;> rfl), by repeat (first | (with_reducible first | exact HI0.out | apply IsS81.alloc | apply IsS81.drewN | apply IsS81.drew | apply IsS81.set_1 | apply IsS81.set_2 | apply IsS81.set_3) | exact HI0.out), by repeat (first | (with_reducible first | exact HB.out | apply below_alloc | apply pw_below_drewN | apply below_drew1 | refine below_set ?_ (IsS81.ge HI0.out)) | exact HB.out), by repeat (first | (with_reducible first | exact HK.out | apply KeepBut.set_ | apply keep_drewN | apply keep_drew | apply keep_alloc) | exact HK.out)⟩
  ·rw [if_neg c4] at H
   have c4b0 : decide (4611686018427387905 < t295) = false := decide_eq_false c4
   clear c4
   simp only [Option.some.injEq, Prod.mk.injEq] at H
   obtain ⟨rfl, rfl, rfl, rfl⟩ := H
   obtain ⟨ASz10_0, cSz10_0, HGz10, hgz10, HSz10_0⟩ := HI0.out
   have hcz10_0 := cellS81_0 HGz10
   have hcz10_1 := cellS81_1 HGz10
   have hcz10_2 := cellS81_2 HGz10
   have hcz10_3 := cellS81_3 HGz10
   have hfz10_1 := blk_frozen HGz10 1
   have hfz10_2 := blk_frozen HGz10 2
   have hfz10_3 := blk_frozen HGz10 3
   clear HGz10 hgz10
   go_enter Tryd.func50, Tryd.ntmps50
   go_wp2_with (first | ((with_reducible refine gate_callee (f := 78) rfl ?_); refine goesL_ (some 10) rfl rfl Tryd.func78 (by kernel_rfl) rfl #[.pointer (some ⟨g, 0, none⟩)] rfl (by (try simp only [List.map_toArray, List.map_cons, List.map_nil]); first | done | rfl | (simp only [List.length_drop, List.length_take]; rfl)) ?_; (with_reducible refine (middenref16_text_word.calls k g s0_0 s0_1 s0_2 s0_3 t295 t296 t297 t298 w0 _ ?side1 ?side2 A2.out).mono ?_); (case side1 => repeat (first | (with_reducible first | exact HI0.out | apply IsS81.alloc | apply IsS81.drewN | apply IsS81.drew | apply IsS81.set_1 | apply IsS81.set_2 | apply IsS81.set_3) | exact HI0.out)); (case side2 => repeat (first | (with_reducible first | exact HB.out | apply below_alloc | apply pw_below_drewN | apply below_drew1 | refine below_set ?_ (IsS81.ge HI0.out)) | exact HB.out)); rintro e w11 ⟨rfl, hi, hb, hk⟩; refine ⟨_, rfl, ?_⟩; have n0_ := Aside0.mk (KeepBut.trans (by repeat (first | (with_reducible first | exact HK.out | apply KeepBut.set_ | apply keep_drewN | apply keep_drew | apply keep_alloc) | exact HK.out)) hk (.inl rfl)); have n1_ := Aside0.mk (hb); have n2_ := Aside0.mk (hi); clear HK; clear HB; clear HI0; have HK := n0_; have HB := n1_; have HI0 := n2_; clear n0_ n1_ n2_; (try clear hb); (try clear hb2); (try clear hk); (try clear hi); obtain ⟨ASz12_0, cSz12_0, HGz12, hgz12, HSz12_0⟩ := HI0.out; have hcz12_0 := cellS81_0 HGz12; have hcz12_1 := cellS81_1 HGz12; have hcz12_2 := cellS81_2 HGz12; have hcz12_3 := cellS81_3 HGz12; have hfz12_1 := blk_frozen HGz12 1; have hfz12_2 := blk_frozen HGz12 2; have hfz12_3 := blk_frozen HGz12 3; clear HGz12 hgz12))
   go_ret
   exact ⟨by first | rfl | (simp [errW_none, errW_some] <;> rfl) | (simp [*, errW_none, errW_some] <;> rfl), by repeat (first | (with_reducible first | exact HI0.out | apply IsS81.alloc | apply IsS81.drewN | apply IsS81.drew | apply IsS81.set_1 | apply IsS81.set_2 | apply IsS81.set_3) | exact HI0.out), by repeat (first | (with_reducible first | exact HB.out | apply below_alloc | apply pw_below_drewN | apply below_drew1 | refine below_set ?_ (IsS81.ge HI0.out)) | exact HB.out), by repeat (first | (with_reducible first | exact HK.out | apply KeepBut.set_ | apply keep_drewN | apply keep_drew | apply keep_alloc) | exact HK.out)⟩
 ·rw [if_neg c3] at H
  have c3b0 : (t297 == 0) = false := beq_eq_false_iff_ne.mpr c3
  have c3b1 : (t297 != 0) = true := bne_iff_ne.mpr c3
  simp only [Option.some.injEq, Prod.mk.injEq] at H
  obtain ⟨rfl, rfl, rfl, rfl⟩ := H
  obtain ⟨ASz13_0, cSz13_0, HGz13, hgz13, HSz13_0⟩ := HI0.out
  have hcz13_0 := cellS81_0 HGz13
  have hcz13_1 := cellS81_1 HGz13
  have hcz13_2 := cellS81_2 HGz13
  have hcz13_3 := cellS81_3 HGz13
  have hfz13_1 := blk_frozen HGz13 1
  have hfz13_2 := blk_frozen HGz13 2
  have hfz13_3 := blk_frozen HGz13 3
  clear HGz13 hgz13
  go_enter Tryd.func50, Tryd.ntmps50
  go_wp2_with (first | ((with_reducible refine gate_callee (f := 78) rfl ?_); refine goesL_ (some 10) rfl rfl Tryd.func78 (by kernel_rfl) rfl #[.pointer (some ⟨g, 0, none⟩)] rfl (by (try simp only [List.map_toArray, List.map_cons, List.map_nil]); first | done | rfl | (simp only [List.length_drop, List.length_take]; rfl)) ?_; (with_reducible refine (middenref16_text_word.calls k g s0_0 s0_1 s0_2 s0_3 t295 t296 t297 t298 w0 _ ?side1 ?side2 A2.out).mono ?_); (case side1 => repeat (first | (with_reducible first | exact HI0.out | apply IsS81.alloc | apply IsS81.drewN | apply IsS81.drew | apply IsS81.set_1 | apply IsS81.set_2 | apply IsS81.set_3) | exact HI0.out)); (case side2 => repeat (first | (with_reducible first | exact HB.out | apply below_alloc | apply pw_below_drewN | apply below_drew1 | refine below_set ?_ (IsS81.ge HI0.out)) | exact HB.out)); rintro e w14 ⟨rfl, hi, hb, hk⟩; refine ⟨_, rfl, ?_⟩; have n0_ := Aside0.mk (KeepBut.trans (by repeat (first | (with_reducible first | exact HK.out | apply KeepBut.set_ | apply keep_drewN | apply keep_drew | apply keep_alloc) | exact HK.out)) hk (.inl rfl)); have n1_ := Aside0.mk (hb); have n2_ := Aside0.mk (hi); clear HK; clear HB; clear HI0; have HK := n0_; have HB := n1_; have HI0 := n2_; clear n0_ n1_ n2_; (try clear hb); (try clear hb2); (try clear hk); (try clear hi); obtain ⟨ASz15_0, cSz15_0, HGz15, hgz15, HSz15_0⟩ := HI0.out; have hcz15_0 := cellS81_0 HGz15; have hcz15_1 := cellS81_1 HGz15; have hcz15_2 := cellS81_2 HGz15; have hcz15_3 := cellS81_3 HGz15; have hfz15_1 := blk_frozen HGz15 1; have hfz15_2 := blk_frozen HGz15 2; have hfz15_3 := blk_frozen HGz15 3; clear HGz15 hgz15))
  go_ret
  exact ⟨by first | rfl | (simp [errW_none, errW_some] <;> rfl) | (simp [*, errW_none, errW_some] <;> rfl), by repeat (first | (with_reducible first | exact HI0.out | apply IsS81.alloc | apply IsS81.drewN | apply IsS81.drew | apply IsS81.set_1 | apply IsS81.set_2 | apply IsS81.set_3) | exact HI0.out), by repeat (first | (with_reducible first | exact HB.out | apply below_alloc | apply pw_below_drewN | apply below_drew1 | refine below_set ?_ (IsS81.ge HI0.out)) | exact HB.out), by repeat (first | (with_reducible first | exact HK.out | apply KeepBut.set_ | apply keep_drewN | apply keep_drew | apply keep_alloc) | exact HK.out)⟩

def middenref16_text_many.j0 : Nat → Int → Bool → List Int → Int → Int → Int → Option (Int × Int × Int × Int)
 | 0, _, _, _, _, _, _ => none
 | k + 1, x3, x25, x1000, x1001, x1002, x1003 => if x25 = true then ((middenref16_text_fault.f x1000 x1001 x1002 x1003 (x1000.length : Int) 160).bind fun bt306 => (if bt306.2.1 = 0 then (some (wrap64 (x3), bt306.1, bt306.2.1, bt306.2.2)) else (some (0, bt306.1, bt306.2.1, bt306.2.2)))) else (if x1002 = 0 then (some (wrap64 (x3), x1001, x1002, x1003)) else (some (0, x1001, x1002, x1003)))
def middenref16_text_many.f (k : Nat) (s0_0 : List Int) (s0_1 : Int) (s0_2 : Int) (s0_3 : Int) : Option (Int × Int × Int × Int) := (middenref16_text_number.f k s0_0 s0_1 s0_2 s0_3).bind fun bt302 => (if bt302.2.2.1 = 0 then (middenref16_text_many.j0 k bt302.1 (decide (bt302.1 > (IntKind.u64.wrap (wrap64 ((s0_0.length : Int) - bt302.2.1))))) s0_0 bt302.2.1 bt302.2.2.1 bt302.2.2.2) else (middenref16_text_many.j0 k bt302.1 false s0_0 bt302.2.1 bt302.2.2.1 bt302.2.2.2))
set_option maxHeartbeats 8000000 in
set_option maxRecDepth 100000 in
theorem middenref16_text_many.calls (k : Nat) (g : Nat) (s0_0 : List Int) (s0_1 : Int) (s0_2 : Int) (s0_3 : Int) (r1 : Int) (r2 : Int) (r3 : Int) (r4 : Int) (w0 w : World) (hI : IsS81 w0 w g s0_0 s0_1 s0_2 s0_3) (hB : Below w0.heap.size w0 w) (h : middenref16_text_many.f k s0_0 s0_1 s0_2 s0_3 = some (r1, r2, r3, r4)) :
  Calls Tryd.prog 51 #[.pointer (some ⟨g, 0, none⟩)] w fun e w' => e = .returned (.int .i64 r1) ∧ IsS81 w0 w' g s0_0 r2 r3 r4 ∧ Below w0.heap.size w0 w' ∧ KeepBut w w' g none := by
 have HI0 := Aside0.mk hI
 have HK := Aside0.mk (KeepBut.refl w g none)
 have HL := Aside0.mk hB.size
 clear hI
 have HW0 := Aside0.mk hB.size
 have HB := Aside0.mk hB
 clear hB
 have H : ((middenref16_text_number.f k s0_0 s0_1 s0_2 s0_3).bind fun bt302 => (if bt302.2.2.1 = 0 then (middenref16_text_many.j0 k bt302.1 (decide (bt302.1 > (IntKind.u64.wrap (wrap64 ((s0_0.length : Int) - bt302.2.1))))) s0_0 bt302.2.1 bt302.2.2.1 bt302.2.2.2) else (middenref16_text_many.j0 k bt302.1 false s0_0 bt302.2.1 bt302.2.2.1 bt302.2.2.2))) = some (r1, r2, r3, r4) := h
 clear h
 replace H := Option.bind_eq_some_iff.mp H
 obtain ⟨⟨t302, t303, t304, t305⟩, A20, H⟩ := H
 replace H : (if t304 = 0 then (middenref16_text_many.j0 k t302 (decide (t302 > (IntKind.u64.wrap (wrap64 ((s0_0.length : Int) - t303))))) s0_0 t303 t304 t305) else (middenref16_text_many.j0 k t302 false s0_0 t303 t304 t305)) = some (r1, r2, r3, r4) := H
 have A2 := Aside0.mk A20
 clear A20
 have HC3 := Aside0.mk H
 clear H
 go_enter Tryd.func51, Tryd.ntmps51
 go_upto_region 2 with (first | (go_at_call 50; (with_reducible refine (middenref16_text_number.calls k g s0_0 s0_1 s0_2 s0_3 t302 t303 t304 t305 w0 _ ?side1 ?side2 A2.out).mono ?_); (case side1 => repeat (first | (with_reducible first | exact HI0.out | apply IsS81.alloc | apply IsS81.drewN | apply IsS81.drew | apply IsS81.set_1 | apply IsS81.set_2 | apply IsS81.set_3) | exact HI0.out)); (case side2 => repeat (first | (with_reducible first | exact HB.out | apply below_alloc | apply pw_below_drewN | apply below_drew1 | refine below_set ?_ (IsS81.ge HI0.out)) | exact HB.out)); rintro e w4 ⟨rfl, hi, hb, hk⟩; have n0_ := Aside0.mk (KeepBut.trans (by repeat (first | (with_reducible first | exact HK.out | apply KeepBut.set_ | apply keep_drewN | apply keep_drew | apply keep_alloc) | exact HK.out)) hk (.inl rfl)); have n1_ := Aside0.mk (hb); have n2_ := Aside0.mk (hi); clear HK; clear HB; clear HI0; have HK := n0_; have HB := n1_; have HI0 := n2_; clear n0_ n1_ n2_; (try clear hb); (try clear hb2); (try clear hk); (try clear hi)))
 repeat (go_quiet (first | (go_at_call 50; (with_reducible refine (middenref16_text_number.calls k g s0_0 s0_1 s0_2 s0_3 t302 t303 t304 t305 w0 _ ?side1 ?side2 A2.out).mono ?_); (case side1 => repeat (first | (with_reducible first | exact HI0.out | apply IsS81.alloc | apply IsS81.drewN | apply IsS81.drew | apply IsS81.set_1 | apply IsS81.set_2 | apply IsS81.set_3) | exact HI0.out)); (case side2 => repeat (first | (with_reducible first | exact HB.out | apply below_alloc | apply pw_below_drewN | apply below_drew1 | refine below_set ?_ (IsS81.ge HI0.out)) | exact HB.out)); rintro e w4 ⟨rfl, hi, hb, hk⟩; have n0_ := Aside0.mk (KeepBut.trans (by repeat (first | (with_reducible first | exact HK.out | apply KeepBut.set_ | apply keep_drewN | apply keep_drew | apply keep_alloc) | exact HK.out)) hk (.inl rfl)); have n1_ := Aside0.mk (hb); have n2_ := Aside0.mk (hi); clear HK; clear HB; clear HI0; have HK := n0_; have HB := n1_; have HI0 := n2_; clear n0_ n1_ n2_; (try clear hb); (try clear hb2); (try clear hk); (try clear hi))); go_upto_region 2 with (first | (go_at_call 50; (with_reducible refine (middenref16_text_number.calls k g s0_0 s0_1 s0_2 s0_3 t302 t303 t304 t305 w0 _ ?side1 ?side2 A2.out).mono ?_); (case side1 => repeat (first | (with_reducible first | exact HI0.out | apply IsS81.alloc | apply IsS81.drewN | apply IsS81.drew | apply IsS81.set_1 | apply IsS81.set_2 | apply IsS81.set_3) | exact HI0.out)); (case side2 => repeat (first | (with_reducible first | exact HB.out | apply below_alloc | apply pw_below_drewN | apply below_drew1 | refine below_set ?_ (IsS81.ge HI0.out)) | exact HB.out)); rintro e w4 ⟨rfl, hi, hb, hk⟩; have n0_ := Aside0.mk (KeepBut.trans (by repeat (first | (with_reducible first | exact HK.out | apply KeepBut.set_ | apply keep_drewN | apply keep_drew | apply keep_alloc) | exact HK.out)) hk (.inl rfl)); have n1_ := Aside0.mk (hb); have n2_ := Aside0.mk (hi); clear HK; clear HB; clear HI0; have HK := n0_; have HB := n1_; have HI0 := n2_; clear n0_ n1_ n2_; (try clear hb); (try clear hb2); (try clear hk); (try clear hi))))
 (try simp only [Act.put, List.setIfInBounds_toArray, List.set_cons_zero, List.set_cons_succ])
 go_cut [25] (fun v25 wc => ∃ (kq : Nat) (x25_2 : Bool), v25 = .bool x25_2 ∧ Aside0 (middenref16_text_many.j0 kq t302 x25_2 s0_0 t303 t304 t305 = some (r1, r2, r3, r4)) ∧ Aside0 (kq ≤ k) ∧ Aside0 (IsS81 w0 wc g s0_0 t303 t304 t305) ∧ Aside0 (KeepBut w wc g none) ∧ Aside0 (Below w0.heap.size w0 wc))
 case first =>
  have H := HC3.out
  clear HC3
  by_cases c5 : t304 = 0
  ·rw [if_pos c5] at H
   have c5b0 : (t304 == 0) = true := beq_iff_eq.mpr c5
   have c5b1 : (t304 != 0) = false := bne_eq_false_iff_eq.mpr c5
   clear c5
   (first | rw [c5b0] | (simp only [i64_w, i32_w]; rw [c5b0]) | skip)
   have H' := Aside0.mk H
   clear H
   obtain ⟨ASz6_0, cSz6_0, HGz6, hgz6, HSz6_0⟩ := HI0.out
   have hcz6_0 := cellS81_0 HGz6
   have hcz6_1 := cellS81_1 HGz6
   have hcz6_2 := cellS81_2 HGz6
   have hcz6_3 := cellS81_3 HGz6
   have hfz6_1 := blk_frozen HGz6 1
   have hfz6_2 := blk_frozen HGz6 2
   have hfz6_3 := blk_frozen HGz6 3
   clear HGz6 hgz6
   go_wp2
   repeat (go_quiet (fail); try go_wp2)
   go_meet
   case rel => exact ⟨_, (decide (t302 > (IntKind.u64.wrap (wrap64 ((s0_0.length : Int) - t303))))), (by first | rfl | (simp; done) | (simp [*]; done)), H', ⟨by first | omega | exact Nat.le_refl _⟩, ⟨by repeat (first | (with_reducible first | exact HI0.out | apply IsS81.alloc | apply IsS81.drewN | apply IsS81.drew | apply IsS81.set_1 | apply IsS81.set_2 | apply IsS81.set_3) | exact HI0.out)⟩, ⟨by repeat (first | (with_reducible first | exact HK.out | apply KeepBut.set_ | apply keep_drewN | apply keep_drew | apply keep_alloc) | exact HK.out)⟩, ⟨by repeat (first | (with_reducible first | exact HB.out | apply below_alloc | apply pw_below_drewN | apply below_drew1 | refine below_set ?_ (IsS81.ge HI0.out)) | exact HB.out)⟩⟩
  ·rw [if_neg c5] at H
   have c5b0 : (t304 == 0) = false := beq_eq_false_iff_ne.mpr c5
   have c5b1 : (t304 != 0) = true := bne_iff_ne.mpr c5
   (first | rw [c5b0] | (simp only [i64_w, i32_w]; rw [c5b0]) | skip)
   have H' := Aside0.mk H
   clear H
   obtain ⟨ASz7_0, cSz7_0, HGz7, hgz7, HSz7_0⟩ := HI0.out
   have hcz7_0 := cellS81_0 HGz7
   have hcz7_1 := cellS81_1 HGz7
   have hcz7_2 := cellS81_2 HGz7
   have hcz7_3 := cellS81_3 HGz7
   have hfz7_1 := blk_frozen HGz7 1
   have hfz7_2 := blk_frozen HGz7 2
   have hfz7_3 := blk_frozen HGz7 3
   clear HGz7 hgz7
   go_wp2
   repeat (go_quiet (fail); try go_wp2)
   go_meet
   case rel => exact ⟨_, (false), (by first | rfl | (simp; done) | (simp [*]; done)), H', ⟨by first | omega | exact Nat.le_refl _⟩, ⟨by repeat (first | (with_reducible first | exact HI0.out | apply IsS81.alloc | apply IsS81.drewN | apply IsS81.drew | apply IsS81.set_1 | apply IsS81.set_2 | apply IsS81.set_3) | exact HI0.out)⟩, ⟨by repeat (first | (with_reducible first | exact HK.out | apply KeepBut.set_ | apply keep_drewN | apply keep_drew | apply keep_alloc) | exact HK.out)⟩, ⟨by repeat (first | (with_reducible first | exact HB.out | apply below_alloc | apply pw_below_drewN | apply below_drew1 | refine below_set ?_ (IsS81.ge HI0.out)) | exact HB.out)⟩⟩
 case rest =>
  clear HC3
  try clear p2
  try clear c5
  try clear c5b0
  try clear c5b1
  try clear p6
  try clear hcz6_0
  try clear hcz6_1
  try clear hcz6_2
  try clear hcz6_3
  try clear hcz7_0
  try clear hcz7_1
  try clear hcz7_2
  try clear hcz7_3
  try clear hfz6_1
  try clear hfz6_2
  try clear hfz6_3
  try clear hfz7_1
  try clear hfz7_2
  try clear hfz7_3
  obtain ⟨kq, x25_2, rfl, HA, HJ2, HI0, HK, HB⟩ := hcut
  cases kq with
  | zero => exact absurd HA.out (by simp [middenref16_text_many.j0])
  | succ kj2 =>
   have H := HA.out
   clear HA
   simp only [middenref16_text_many.j0] at H
   by_cases c8 : x25_2 = true
   ·subst c8
    have H1 : ((middenref16_text_fault.f s0_0 t303 t304 t305 (s0_0.length : Int) 160).bind fun bt306 => (if bt306.2.1 = 0 then (some (wrap64 (t302), bt306.1, bt306.2.1, bt306.2.2)) else (some (0, bt306.1, bt306.2.1, bt306.2.2)))) = some (r1, r2, r3, r4) := by rw [if_pos rfl] at H; exact H
    clear H
    have H := H1
    clear H1
    replace H := Option.bind_eq_some_iff.mp H
    obtain ⟨⟨t306, t307, t308⟩, A90, H⟩ := H
    replace H : (if t307 = 0 then (some (wrap64 (t302), t306, t307, t308)) else (some (0, t306, t307, t308))) = some (r1, r2, r3, r4) := H
    have A9 := Aside0.mk A90
    clear A90
    by_cases c10 : t307 = 0
    ·rw [if_pos c10] at H
     have c10b0 : (t307 == 0) = true := beq_iff_eq.mpr c10
     have c10b1 : (t307 != 0) = false := bne_eq_false_iff_eq.mpr c10
     clear c10
     simp only [Option.some.injEq, Prod.mk.injEq] at H
     obtain ⟨rfl, rfl, rfl, rfl⟩ := H
     obtain ⟨ASz11_0, cSz11_0, HGz11, hgz11, HSz11_0⟩ := HI0.out
     have hcz11_0 := cellS81_0 HGz11
     have hcz11_1 := cellS81_1 HGz11
     have hcz11_2 := cellS81_2 HGz11
     have hcz11_3 := cellS81_3 HGz11
     have hfz11_1 := blk_frozen HGz11 1
     have hfz11_2 := blk_frozen HGz11 2
     have hfz11_3 := blk_frozen HGz11 3
     clear HGz11 hgz11
     go_wp2_with (first | (go_at_call 49; (with_reducible refine (middenref16_text_fault.calls g s0_0 t303 t304 t305 (s0_0.length : Int) 160 t306 t307 t308 w0 _ ?side1 ?side2 A9.out).mono ?_); (case side1 => repeat (first | (with_reducible first | exact HI0.out | apply IsS81.alloc | apply IsS81.drewN | apply IsS81.drew | apply IsS81.set_1 | apply IsS81.set_2 | apply IsS81.set_3) | exact HI0.out)); (case side2 => repeat (first | (with_reducible first | exact HB.out | apply below_alloc | apply pw_below_drewN | apply below_drew1 | refine below_set ?_ (IsS81.ge HI0.out)) | exact HB.out)); rintro e w12 ⟨rfl, hi, hb, hk⟩; have n0_ := Aside0.mk (KeepBut.trans (by repeat (first | (with_reducible first | exact HK.out | apply KeepBut.set_ | apply keep_drewN | apply keep_drew | apply keep_alloc) | exact HK.out)) hk (.inl rfl)); have n1_ := Aside0.mk (hb); have n2_ := Aside0.mk (hi); clear HK; clear HB; clear HI0; have HK := n0_; have HB := n1_; have HI0 := n2_; clear n0_ n1_ n2_; (try clear hb); (try clear hb2); (try clear hk); (try clear hi); obtain ⟨ASz13_0, cSz13_0, HGz13, hgz13, HSz13_0⟩ := HI0.out; have hcz13_0 := cellS81_0 HGz13; have hcz13_1 := cellS81_1 HGz13; have hcz13_2 := cellS81_2 HGz13; have hcz13_3 := cellS81_3 HGz13; have hfz13_1 := blk_frozen HGz13 1; have hfz13_2 := blk_frozen HGz13 2; have hfz13_3 := blk_frozen HGz13 3; clear HGz13 hgz13))
     repeat (go_quiet (first | (go_at_call 49; (with_reducible refine (middenref16_text_fault.calls g s0_0 t303 t304 t305 (s0_0.length : Int) 160 t306 t307 t308 w0 _ ?side1 ?side2 A9.out).mono ?_); (case side1 => repeat (first | (with_reducible first | exact HI0.out | apply IsS81.alloc | apply IsS81.drewN | apply IsS81.drew | apply IsS81.set_1 | apply IsS81.set_2 | apply IsS81.set_3) | exact HI0.out)); (case side2 => repeat (first | (with_reducible first | exact HB.out | apply below_alloc | apply pw_below_drewN | apply below_drew1 | refine below_set ?_ (IsS81.ge HI0.out)) | exact HB.out)); rintro e w12 ⟨rfl, hi, hb, hk⟩; have n0_ := Aside0.mk (KeepBut.trans (by repeat (first | (with_reducible first | exact HK.out | apply KeepBut.set_ | apply keep_drewN | apply keep_drew | apply keep_alloc) | exact HK.out)) hk (.inl rfl)); have n1_ := Aside0.mk (hb); have n2_ := Aside0.mk (hi); clear HK; clear HB; clear HI0; have HK := n0_; have HB := n1_; have HI0 := n2_; clear n0_ n1_ n2_; (try clear hb); (try clear hb2); (try clear hk); (try clear hi); obtain ⟨ASz13_0, cSz13_0, HGz13, hgz13, HSz13_0⟩ := HI0.out; have hcz13_0 := cellS81_0 HGz13; have hcz13_1 := cellS81_1 HGz13; have hcz13_2 := cellS81_2 HGz13; have hcz13_3 := cellS81_3 HGz13; have hfz13_1 := blk_frozen HGz13 1; have hfz13_2 := blk_frozen HGz13 2; have hfz13_3 := blk_frozen HGz13 3; clear HGz13 hgz13)); try go_wp2_with (first | (go_at_call 49; (with_reducible refine (middenref16_text_fault.calls g s0_0 t303 t304 t305 (s0_0.length : Int) 160 t306 t307 t308 w0 _ ?side1 ?side2 A9.out).mono ?_); (case side1 => repeat (first | (with_reducible first | exact HI0.out | apply IsS81.alloc | apply IsS81.drewN | apply IsS81.drew | apply IsS81.set_1 | apply IsS81.set_2 | apply IsS81.set_3) | exact HI0.out)); (case side2 => repeat (first | (with_reducible first | exact HB.out | apply below_alloc | apply pw_below_drewN | apply below_drew1 | refine below_set ?_ (IsS81.ge HI0.out)) | exact HB.out)); rintro e w12 ⟨rfl, hi, hb, hk⟩; have n0_ := Aside0.mk (KeepBut.trans (by repeat (first | (with_reducible first | exact HK.out | apply KeepBut.set_ | apply keep_drewN | apply keep_drew | apply keep_alloc) | exact HK.out)) hk (.inl rfl)); have n1_ := Aside0.mk (hb); have n2_ := Aside0.mk (hi); clear HK; clear HB; clear HI0; have HK := n0_; have HB := n1_; have HI0 := n2_; clear n0_ n1_ n2_; (try clear hb); (try clear hb2); (try clear hk); (try clear hi); obtain ⟨ASz13_0, cSz13_0, HGz13, hgz13, HSz13_0⟩ := HI0.out; have hcz13_0 := cellS81_0 HGz13; have hcz13_1 := cellS81_1 HGz13; have hcz13_2 := cellS81_2 HGz13; have hcz13_3 := cellS81_3 HGz13; have hfz13_1 := blk_frozen HGz13 1; have hfz13_2 := blk_frozen HGz13 2; have hfz13_3 := blk_frozen HGz13 3; clear HGz13 hgz13)))
     go_ret
     exact ⟨by first | rfl | (simp [errW_none, errW_some] <;> rfl) | (simp [*, errW_none, errW_some] <;> rfl), by repeat (first | (with_reducible first | exact HI0.out | apply IsS81.alloc | apply IsS81.drewN | apply IsS81.drew | apply IsS81.set_1 | apply IsS81.set_2 | apply IsS81.set_3) | exact HI0.out), by repeat (first | (with_reducible first | exact HB.out | apply below_alloc | apply pw_below_drewN | apply below_drew1 | refine below_set ?_ (IsS81.ge HI0.out)) | exact HB.out), by repeat (first | (with_reducible first | exact HK.out | apply KeepBut.set_ | apply keep_drewN | apply keep_drew | apply keep_alloc) | exact HK.out)⟩
    ·rw [if_neg c10] at H
     have c10b0 : (t307 == 0) = false := beq_eq_false_iff_ne.mpr c10
     have c10b1 : (t307 != 0) = true := bne_iff_ne.mpr c10
     simp only [Option.some.injEq, Prod.mk.injEq] at H
     obtain ⟨rfl, rfl, rfl, rfl⟩ := H
     obtain ⟨ASz14_0, cSz14_0, HGz14, hgz14, HSz14_0⟩ := HI0.out
     have hcz14_0 := cellS81_0 HGz14
     have hcz14_1 := cellS81_1 HGz14
     have hcz14_2 := cellS81_2 HGz14
     have hcz14_3 := cellS81_3 HGz14
     have hfz14_1 := blk_frozen HGz14 1
     have hfz14_2 := blk_frozen HGz14 2
     have hfz14_3 := blk_frozen HGz14 3
     clear HGz14 hgz14
     go_wp2_with (first | (go_at_call 49; (with_reducible refine (middenref16_text_fault.calls g s0_0 t303 t304 t305 (s0_0.length : Int) 160 t306 t307 t308 w0 _ ?side1 ?side2 A9.out).mono ?_); (case side1 => repeat (first | (with_reducible first | exact HI0.out | apply IsS81.alloc | apply IsS81.drewN | apply IsS81.drew | apply IsS81.set_1 | apply IsS81.set_2 | apply IsS81.set_3) | exact HI0.out)); (case side2 => repeat (first | (with_reducible first | exact HB.out | apply below_alloc | apply pw_below_drewN | apply below_drew1 | refine below_set ?_ (IsS81.ge HI0.out)) | exact HB.out)); rintro e w15 ⟨rfl, hi, hb, hk⟩; have n0_ := Aside0.mk (KeepBut.trans (by repeat (first | (with_reducible first | exact HK.out | apply KeepBut.set_ | apply keep_drewN | apply keep_drew | apply keep_alloc) | exact HK.out)) hk (.inl rfl)); have n1_ := Aside0.mk (hb); have n2_ := Aside0.mk (hi); clear HK; clear HB; clear HI0; have HK := n0_; have HB := n1_; have HI0 := n2_; clear n0_ n1_ n2_; (try clear hb); (try clear hb2); (try clear hk); (try clear hi); obtain ⟨ASz16_0, cSz16_0, HGz16, hgz16, HSz16_0⟩ := HI0.out; have hcz16_0 := cellS81_0 HGz16; have hcz16_1 := cellS81_1 HGz16; have hcz16_2 := cellS81_2 HGz16; have hcz16_3 := cellS81_3 HGz16; have hfz16_1 := blk_frozen HGz16 1; have hfz16_2 := blk_frozen HGz16 2; have hfz16_3 := blk_frozen HGz16 3; clear HGz16 hgz16))
     repeat (go_quiet (first | (go_at_call 49; (with_reducible refine (middenref16_text_fault.calls g s0_0 t303 t304 t305 (s0_0.length : Int) 160 t306 t307 t308 w0 _ ?side1 ?side2 A9.out).mono ?_); (case side1 => repeat (first | (with_reducible first | exact HI0.out | apply IsS81.alloc | apply IsS81.drewN | apply IsS81.drew | apply IsS81.set_1 | apply IsS81.set_2 | apply IsS81.set_3) | exact HI0.out)); (case side2 => repeat (first | (with_reducible first | exact HB.out | apply below_alloc | apply pw_below_drewN | apply below_drew1 | refine below_set ?_ (IsS81.ge HI0.out)) | exact HB.out)); rintro e w15 ⟨rfl, hi, hb, hk⟩; have n0_ := Aside0.mk (KeepBut.trans (by repeat (first | (with_reducible first | exact HK.out | apply KeepBut.set_ | apply keep_drewN | apply keep_drew | apply keep_alloc) | exact HK.out)) hk (.inl rfl)); have n1_ := Aside0.mk (hb); have n2_ := Aside0.mk (hi); clear HK; clear HB; clear HI0; have HK := n0_; have HB := n1_; have HI0 := n2_; clear n0_ n1_ n2_; (try clear hb); (try clear hb2); (try clear hk); (try clear hi); obtain ⟨ASz16_0, cSz16_0, HGz16, hgz16, HSz16_0⟩ := HI0.out; have hcz16_0 := cellS81_0 HGz16; have hcz16_1 := cellS81_1 HGz16; have hcz16_2 := cellS81_2 HGz16; have hcz16_3 := cellS81_3 HGz16; have hfz16_1 := blk_frozen HGz16 1; have hfz16_2 := blk_frozen HGz16 2; have hfz16_3 := blk_frozen HGz16 3; clear HGz16 hgz16)); try go_wp2_with (first | (go_at_call 49; (with_reducible refine (middenref16_text_fault.calls g s0_0 t303 t304 t305 (s0_0.length : Int) 160 t306 t307 t308 w0 _ ?side1 ?side2 A9.out).mono ?_); (case side1 => repeat (first | (with_reducible first | exact HI0.out | apply IsS81.alloc | apply IsS81.drewN | apply IsS81.drew | apply IsS81.set_1 | apply IsS81.set_2 | apply IsS81.set_3) | exact HI0.out)); (case side2 => repeat (first | (with_reducible first | exact HB.out | apply below_alloc | apply pw_below_drewN | apply below_drew1 | refine below_set ?_ (IsS81.ge HI0.out)) | exact HB.out)); rintro e w15 ⟨rfl, hi, hb, hk⟩; have n0_ := Aside0.mk (KeepBut.trans (by repeat (first | (with_reducible first | exact HK.out | apply KeepBut.set_ | apply keep_drewN | apply keep_drew | apply keep_alloc) | exact HK.out)) hk (.inl rfl)); have n1_ := Aside0.mk (hb); have n2_ := Aside0.mk (hi); clear HK; clear HB; clear HI0; have HK := n0_; have HB := n1_; have HI0 := n2_; clear n0_ n1_ n2_; (try clear hb); (try clear hb2); (try clear hk); (try clear hi); obtain ⟨ASz16_0, cSz16_0, HGz16, hgz16, HSz16_0⟩ := HI0.out; have hcz16_0 := cellS81_0 HGz16; have hcz16_1 := cellS81_1 HGz16; have hcz16_2 := cellS81_2 HGz16; have hcz16_3 := cellS81_3 HGz16; have hfz16_1 := blk_frozen HGz16 1; have hfz16_2 := blk_frozen HGz16 2; have hfz16_3 := blk_frozen HGz16 3; clear HGz16 hgz16)))
     go_ret
     exact ⟨by first | rfl | (simp [errW_none, errW_some] <;> rfl) | (simp [*, errW_none, errW_some] <;> rfl), by repeat (first | (with_reducible first | exact HI0.out | apply IsS81.alloc | apply IsS81.drewN | apply IsS81.drew | apply IsS81.set_1 | apply IsS81.set_2 | apply IsS81.set_3) | exact HI0.out), by repeat (first | (with_reducible first | exact HB.out | apply below_alloc | apply pw_below_drewN | apply below_drew1 | refine below_set ?_ (IsS81.ge HI0.out)) | exact HB.out), by repeat (first | (with_reducible first | exact HK.out | apply KeepBut.set_ | apply keep_drewN | apply keep_drew | apply keep_alloc) | exact HK.out)⟩
   ·replace c8 := Bool.eq_false_iff.mpr c8
    subst c8
    have H1 : (if t304 = 0 then (some (wrap64 (t302), t303, t304, t305)) else (some (0, t303, t304, t305))) = some (r1, r2, r3, r4) := by rw [if_neg (show ¬ (false = true) by decide)] at H; exact H
    clear H
    have H := H1
    clear H1
    by_cases c17 : t304 = 0
    ·rw [if_pos c17] at H
     have c17b0 : (t304 == 0) = true := beq_iff_eq.mpr c17
     have c17b1 : (t304 != 0) = false := bne_eq_false_iff_eq.mpr c17
     clear c17
     simp only [Option.some.injEq, Prod.mk.injEq] at H
     obtain ⟨rfl, rfl, rfl, rfl⟩ := H
     obtain ⟨ASz18_0, cSz18_0, HGz18, hgz18, HSz18_0⟩ := HI0.out
     have hcz18_0 := cellS81_0 HGz18
     have hcz18_1 := cellS81_1 HGz18
     have hcz18_2 := cellS81_2 HGz18
     have hcz18_3 := cellS81_3 HGz18
     have hfz18_1 := blk_frozen HGz18 1
     have hfz18_2 := blk_frozen HGz18 2
     have hfz18_3 := blk_frozen HGz18 3
     clear HGz18 hgz18
     go_wp2
     repeat (go_quiet (fail); try go_wp2)
     go_ret
     exact ⟨by first | rfl | (simp [errW_none, errW_some] <;> rfl) | (simp [*, errW_none, errW_some] <;> rfl), by repeat (first | (with_reducible first | exact HI0.out | apply IsS81.alloc | apply IsS81.drewN | apply IsS81.drew | apply IsS81.set_1 | apply IsS81.set_2 | apply IsS81.set_3) | exact HI0.out), by repeat (first | (with_reducible first | exact HB.out | apply below_alloc | apply pw_below_drewN | apply below_drew1 | refine below_set ?_ (IsS81.ge HI0.out)) | exact HB.out), by repeat (first | (with_reducible first | exact HK.out | apply KeepBut.set_ | apply keep_drewN | apply keep_drew | apply keep_alloc) | exact HK.out)⟩
    ·rw [if_neg c17] at H
     have c17b0 : (t304 == 0) = false := beq_eq_false_iff_ne.mpr c17
     have c17b1 : (t304 != 0) = true := bne_iff_ne.mpr c17
     simp only [Option.some.injEq, Prod.mk.injEq] at H
     obtain ⟨rfl, rfl, rfl, rfl⟩ := H
     obtain ⟨ASz19_0, cSz19_0, HGz19, hgz19, HSz19_0⟩ := HI0.out
     have hcz19_0 := cellS81_0 HGz19
     have hcz19_1 := cellS81_1 HGz19
     have hcz19_2 := cellS81_2 HGz19
     have hcz19_3 := cellS81_3 HGz19
     have hfz19_1 := blk_frozen HGz19 1
     have hfz19_2 := blk_frozen HGz19 2
     have hfz19_3 := blk_frozen HGz19 3
     clear HGz19 hgz19
     go_wp2
     repeat (go_quiet (fail); try go_wp2)
     go_ret
     exact ⟨by first | rfl | (simp [errW_none, errW_some] <;> rfl) | (simp [*, errW_none, errW_some] <;> rfl), by repeat (first | (with_reducible first | exact HI0.out | apply IsS81.alloc | apply IsS81.drewN | apply IsS81.drew | apply IsS81.set_1 | apply IsS81.set_2 | apply IsS81.set_3) | exact HI0.out), by repeat (first | (with_reducible first | exact HB.out | apply below_alloc | apply pw_below_drewN | apply below_drew1 | refine below_set ?_ (IsS81.ge HI0.out)) | exact HB.out), by repeat (first | (with_reducible first | exact HK.out | apply KeepBut.set_ | apply keep_drewN | apply keep_drew | apply keep_alloc) | exact HK.out)⟩

end Go.Proofs.YtihjjkoddphmiaaDoor.PImageRound
