import Derived.Test.YtihjjkoddphmiaaGreatDoorNIm1
import Derived.Test.YtihjjkoddphmiaaGreatDoorNSep
import Derived.Deep.RegionHeld3
import Derived.Deep.RegionLaw
namespace Go.Proofs.YtihjjkoddphmiaaGreatDoor.img
open Go.RowKit Go.Proofs.YtihjjkoddphmiaaGreatDoorW.PrintWords Go.Proofs.YtihjjkoddphmiaaGreatDoorW.PrintMore Go.Proofs.YtihjjkoddphmiaaGreatDoor.PImageApart
set_option linter.unusedVariables false
set_option linter.unusedSimpArgs false

theorem assert_wr (a : Addr) (w : World) : (Instr.typeAssert (.iface 95 (.pointer (some a))) 101 82 true).run Tryz.prog w = .ok (.tuple #[.pointer none, .bool false]) w := by kernel_rfl
theorem assert_ww (a : Addr) (w : World) : (Instr.typeAssert (.iface 95 (.pointer (some a))) 101 95 true).run Tryz.prog w = .ok (.tuple #[.pointer (some a), .bool true]) w := by kernel_rfl

set_option maxHeartbeats 4000000 in
set_option maxRecDepth 100000 in
theorem wlist_70_66 (w0 : World) (gw : Nat) (p : Addr) (A : Option Addr) (n c : Nat) (v0 : Value) (bs : List Int) (w : World) (P : Nat → World → Prop) (h : Wt w0 gw w bs) (hbs : bs.length ≤ 1000000000000) (hn : n ≤ 1000000) (hp : w.cell? p = some (.slice A n c))
  (hP0 : ∀ w1, Wt w0 gw w1 (bs ++ enc n) → WStep gw w w1 → P 0 w1) (hcell : ∀ i wr, P i wr → wr.cell? p = some (.slice A n c))
  (hE : ∀ i wr, i < n → P i wr → ∃ ad, A = some ad ∧ Calls Tryz.prog 58 #[.pointer (some (ad.add i)), v0] wr fun e w' => e = .returned (.tuple #[]) ∧ P (i + 1) w') :
  Calls Tryz.prog 62 #[.iface 95 (.pointer (some ⟨gw, 0, none⟩)), .pointer (some p), .func (.func 58) #[] #[v0]] w fun e w' => e = .returned (.tuple #[]) ∧ P n w' := by
 have HB : Aside0 (Below w.heap.size w (w.alloc (.cells #[.int .i64 n] 3))) := ⟨below_alloc (Below.refl _ _) _⟩
 have HC : Aside0 ((w.alloc (.cells #[.int .i64 (n : Int)] 3)).heap[w.heap.size]? = some (.cells #[.int .i64 (n : Int)] 3 (0, 0))) := ⟨heap_alloc_new w _⟩
 have hgw : w.heap.size ≠ gw := by
  obtain ⟨v, hv, -⟩ := h.row
  have := blk_lt hv
  omega
 have HCN : Aside0 (Calls Tryz.prog 59 #[.iface 95 (.pointer (some ⟨gw, 0, none⟩)), .pointer (some ⟨w.heap.size, 0, none⟩), .int .i64 0] (w.alloc (.cells #[.int .i64 (n : Int)] 3)) fun e w' => e = .returned (.tuple #[]) ∧ P 0 w') := ⟨by
  refine (winteger_any w0 gw ⟨w.heap.size, 0, none⟩ n 0 bs _ (h.after HB.out) (cell_of_one HC.out) (free_of_one HC.out) (.inr ⟨3, _, hgw, by decide, HC.out⟩) (by omega) (by omega) (by omega) hbs).mono ?_
  rintro e w' ⟨rfl, h1, h2⟩
  refine ⟨rfl, hP0 w' ?_ ((WStep.of_below HB.out).trans h2)⟩
  have e : encI 0 (n : Int) = enc n := by simp [encI]
  rw [e] at h1
  exact h1⟩
 have HCELL := Aside0.mk hcell
 have HE := Aside0.mk hE
 clear h hP0 hcell hE hgw HB HC
 have ha1 := assert_wr ⟨gw, 0, none⟩
 have ha2 := assert_ww ⟨gw, 0, none⟩
 go_enter Tryz.func62, Tryz.ntmps62
 go_wp2_with (fail)
 refine HCN.out.mono ?_
 rintro en w1 ⟨rfl, hp0⟩
 have HP0 := Aside0.mk hp0
 have hc1 := HCELL.out _ _ hp0
 clear hp0 hp
 go_wp2
 go_loopw [56] (fun a wr => ∃ (i : Nat), i ≤ n ∧ a = .int .i64 i ∧ Aside0 (P i wr)) (fun a _ => n - (intOf a).toNat)
 case atStart => exact ⟨0, Nat.zero_le _, rfl, HP0⟩
 case round =>
  clear HP0 hc1
  obtain ⟨i, hi, rfl, HP⟩ := hrel
  have hc2 := HCELL.out _ _ HP.out
  by_cases hlt : i < n
  ·obtain ⟨ad, rfl, hcall⟩ := HE.out i wr hlt HP.out
   have HCL := Aside0.mk hcall
   clear hcall
   go_wp2_with (fail)
   refine HCL.out.mono ?_
   rintro en w2 ⟨rfl, hp2⟩
   have HP2 := Aside0.mk hp2
   clear hp2
   go_wp2
   go_roundw
   case rel => exact ⟨i + 1, by omega, by go_num, HP2⟩
   case measure => simp [intOf]; omega
  ·go_wp2
   go_end0
   have e : i = n := by omega
   rw [← e]
   exact ⟨rfl, HP.out⟩

set_option maxHeartbeats 4000000 in
set_option maxRecDepth 100000 in
theorem wlist_70_77 (w0 : World) (gw : Nat) (p : Addr) (A : Option Addr) (n c : Nat) (v0 : Value) (bs : List Int) (w : World) (P : Nat → World → Prop) (h : Wt w0 gw w bs) (hbs : bs.length ≤ 1000000000000) (hn : n ≤ 1000000) (hp : w.cell? p = some (.slice A n c))
  (hP0 : ∀ w1, Wt w0 gw w1 (bs ++ enc n) → WStep gw w w1 → P 0 w1) (hcell : ∀ i wr, P i wr → wr.cell? p = some (.slice A n c))
  (hE : ∀ i wr, i < n → P i wr → ∃ ad, A = some ad ∧ Calls Tryz.prog 69 #[.pointer (some (ad.add i)), v0] wr fun e w' => e = .returned (.tuple #[]) ∧ P (i + 1) w') :
  Calls Tryz.prog 62 #[.iface 95 (.pointer (some ⟨gw, 0, none⟩)), .pointer (some p), .func (.func 69) #[] #[v0]] w fun e w' => e = .returned (.tuple #[]) ∧ P n w' := by
 have HB : Aside0 (Below w.heap.size w (w.alloc (.cells #[.int .i64 n] 3))) := ⟨below_alloc (Below.refl _ _) _⟩
 have HC : Aside0 ((w.alloc (.cells #[.int .i64 (n : Int)] 3)).heap[w.heap.size]? = some (.cells #[.int .i64 (n : Int)] 3 (0, 0))) := ⟨heap_alloc_new w _⟩
 have hgw : w.heap.size ≠ gw := by
  obtain ⟨v, hv, -⟩ := h.row
  have := blk_lt hv
  omega
 have HCN : Aside0 (Calls Tryz.prog 59 #[.iface 95 (.pointer (some ⟨gw, 0, none⟩)), .pointer (some ⟨w.heap.size, 0, none⟩), .int .i64 0] (w.alloc (.cells #[.int .i64 (n : Int)] 3)) fun e w' => e = .returned (.tuple #[]) ∧ P 0 w') := ⟨by
  refine (winteger_any w0 gw ⟨w.heap.size, 0, none⟩ n 0 bs _ (h.after HB.out) (cell_of_one HC.out) (free_of_one HC.out) (.inr ⟨3, _, hgw, by decide, HC.out⟩) (by omega) (by omega) (by omega) hbs).mono ?_
  rintro e w' ⟨rfl, h1, h2⟩
  refine ⟨rfl, hP0 w' ?_ ((WStep.of_below HB.out).trans h2)⟩
  have e : encI 0 (n : Int) = enc n := by simp [encI]
  rw [e] at h1
  exact h1⟩
 have HCELL := Aside0.mk hcell
 have HE := Aside0.mk hE
 clear h hP0 hcell hE hgw HB HC
 have ha1 := assert_wr ⟨gw, 0, none⟩
 have ha2 := assert_ww ⟨gw, 0, none⟩
 go_enter Tryz.func62, Tryz.ntmps62
 go_wp2_with (fail)
 refine HCN.out.mono ?_
 rintro en w1 ⟨rfl, hp0⟩
 have HP0 := Aside0.mk hp0
 have hc1 := HCELL.out _ _ hp0
 clear hp0 hp
 go_wp2
 go_loopw [56] (fun a wr => ∃ (i : Nat), i ≤ n ∧ a = .int .i64 i ∧ Aside0 (P i wr)) (fun a _ => n - (intOf a).toNat)
 case atStart => exact ⟨0, Nat.zero_le _, rfl, HP0⟩
 case round =>
  clear HP0 hc1
  obtain ⟨i, hi, rfl, HP⟩ := hrel
  have hc2 := HCELL.out _ _ HP.out
  by_cases hlt : i < n
  ·obtain ⟨ad, rfl, hcall⟩ := HE.out i wr hlt HP.out
   have HCL := Aside0.mk hcall
   clear hcall
   go_wp2_with (fail)
   refine HCL.out.mono ?_
   rintro en w2 ⟨rfl, hp2⟩
   have HP2 := Aside0.mk hp2
   clear hp2
   go_wp2
   go_roundw
   case rel => exact ⟨i + 1, by omega, by go_num, HP2⟩
   case measure => simp [intOf]; omega
  ·go_wp2
   go_end0
   have e : i = n := by omega
   rw [← e]
   exact ⟨rfl, HP.out⟩

set_option maxHeartbeats 4000000 in
set_option maxRecDepth 100000 in
theorem wlist_71_72 (w0 : World) (gw : Nat) (p : Addr) (A : Option Addr) (n c : Nat) (v0 : Value) (bs : List Int) (w : World) (P : Nat → World → Prop) (h : Wt w0 gw w bs) (hbs : bs.length ≤ 1000000000000) (hn : n ≤ 1000000) (hp : w.cell? p = some (.slice A n c))
  (hP0 : ∀ w1, Wt w0 gw w1 (bs ++ enc n) → WStep gw w w1 → P 0 w1) (hcell : ∀ i wr, P i wr → wr.cell? p = some (.slice A n c))
  (hE : ∀ i wr, i < n → P i wr → ∃ ad, A = some ad ∧ Calls Tryz.prog 64 #[.pointer (some (ad.add i)), v0] wr fun e w' => e = .returned (.tuple #[]) ∧ P (i + 1) w') :
  Calls Tryz.prog 63 #[.iface 95 (.pointer (some ⟨gw, 0, none⟩)), .pointer (some p), .func (.func 64) #[] #[v0]] w fun e w' => e = .returned (.tuple #[]) ∧ P n w' := by
 have HB : Aside0 (Below w.heap.size w (w.alloc (.cells #[.int .i64 n] 3))) := ⟨below_alloc (Below.refl _ _) _⟩
 have HC : Aside0 ((w.alloc (.cells #[.int .i64 (n : Int)] 3)).heap[w.heap.size]? = some (.cells #[.int .i64 (n : Int)] 3 (0, 0))) := ⟨heap_alloc_new w _⟩
 have hgw : w.heap.size ≠ gw := by
  obtain ⟨v, hv, -⟩ := h.row
  have := blk_lt hv
  omega
 have HCN : Aside0 (Calls Tryz.prog 59 #[.iface 95 (.pointer (some ⟨gw, 0, none⟩)), .pointer (some ⟨w.heap.size, 0, none⟩), .int .i64 0] (w.alloc (.cells #[.int .i64 (n : Int)] 3)) fun e w' => e = .returned (.tuple #[]) ∧ P 0 w') := ⟨by
  refine (winteger_any w0 gw ⟨w.heap.size, 0, none⟩ n 0 bs _ (h.after HB.out) (cell_of_one HC.out) (free_of_one HC.out) (.inr ⟨3, _, hgw, by decide, HC.out⟩) (by omega) (by omega) (by omega) hbs).mono ?_
  rintro e w' ⟨rfl, h1, h2⟩
  refine ⟨rfl, hP0 w' ?_ ((WStep.of_below HB.out).trans h2)⟩
  have e : encI 0 (n : Int) = enc n := by simp [encI]
  rw [e] at h1
  exact h1⟩
 have HCELL := Aside0.mk hcell
 have HE := Aside0.mk hE
 clear h hP0 hcell hE hgw HB HC
 have ha1 := assert_wr ⟨gw, 0, none⟩
 have ha2 := assert_ww ⟨gw, 0, none⟩
 go_enter Tryz.func63, Tryz.ntmps63
 go_wp2_with (fail)
 refine HCN.out.mono ?_
 rintro en w1 ⟨rfl, hp0⟩
 have HP0 := Aside0.mk hp0
 have hc1 := HCELL.out _ _ hp0
 clear hp0 hp
 go_wp2
 go_loopw [56] (fun a wr => ∃ (i : Nat), i ≤ n ∧ a = .int .i64 i ∧ Aside0 (P i wr)) (fun a _ => n - (intOf a).toNat)
 case atStart => exact ⟨0, Nat.zero_le _, rfl, HP0⟩
 case round =>
  clear HP0 hc1
  obtain ⟨i, hi, rfl, HP⟩ := hrel
  have hc2 := HCELL.out _ _ HP.out
  by_cases hlt : i < n
  ·obtain ⟨ad, rfl, hcall⟩ := HE.out i wr hlt HP.out
   have HCL := Aside0.mk hcall
   clear hcall
   go_wp2_with (fail)
   refine HCL.out.mono ?_
   rintro en w2 ⟨rfl, hp2⟩
   have HP2 := Aside0.mk hp2
   clear hp2
   go_wp2
   go_roundw
   case rel => exact ⟨i + 1, by omega, by go_num, HP2⟩
   case measure => simp [intOf]; omega
  ·go_wp2
   go_end0
   have e : i = n := by omega
   rw [← e]
   exact ⟨rfl, HP.out⟩

set_option maxHeartbeats 4000000 in
set_option maxRecDepth 100000 in
theorem wlist_75_76 (w0 : World) (gw : Nat) (p : Addr) (A : Option Addr) (n c : Nat) (v0 v1 : Value) (bs : List Int) (w : World) (P : Nat → World → Prop) (h : Wt w0 gw w bs) (hbs : bs.length ≤ 1000000000000) (hn : n ≤ 1000000) (hp : w.cell? p = some (.slice A n c))
  (hP0 : ∀ w1, Wt w0 gw w1 (bs ++ enc n) → WStep gw w w1 → P 0 w1) (hcell : ∀ i wr, P i wr → wr.cell? p = some (.slice A n c))
  (hE : ∀ i wr, i < n → P i wr → ∃ ad, A = some ad ∧ Calls Tryz.prog 68 #[.pointer (some (ad.add i)), v0, v1] wr fun e w' => e = .returned (.tuple #[]) ∧ P (i + 1) w') :
  Calls Tryz.prog 67 #[.iface 95 (.pointer (some ⟨gw, 0, none⟩)), .pointer (some p), .func (.func 68) #[] #[v0, v1]] w fun e w' => e = .returned (.tuple #[]) ∧ P n w' := by
 have HB : Aside0 (Below w.heap.size w (w.alloc (.cells #[.int .i64 n] 3))) := ⟨below_alloc (Below.refl _ _) _⟩
 have HC : Aside0 ((w.alloc (.cells #[.int .i64 (n : Int)] 3)).heap[w.heap.size]? = some (.cells #[.int .i64 (n : Int)] 3 (0, 0))) := ⟨heap_alloc_new w _⟩
 have hgw : w.heap.size ≠ gw := by
  obtain ⟨v, hv, -⟩ := h.row
  have := blk_lt hv
  omega
 have HCN : Aside0 (Calls Tryz.prog 59 #[.iface 95 (.pointer (some ⟨gw, 0, none⟩)), .pointer (some ⟨w.heap.size, 0, none⟩), .int .i64 0] (w.alloc (.cells #[.int .i64 (n : Int)] 3)) fun e w' => e = .returned (.tuple #[]) ∧ P 0 w') := ⟨by
  refine (winteger_any w0 gw ⟨w.heap.size, 0, none⟩ n 0 bs _ (h.after HB.out) (cell_of_one HC.out) (free_of_one HC.out) (.inr ⟨3, _, hgw, by decide, HC.out⟩) (by omega) (by omega) (by omega) hbs).mono ?_
  rintro e w' ⟨rfl, h1, h2⟩
  refine ⟨rfl, hP0 w' ?_ ((WStep.of_below HB.out).trans h2)⟩
  have e : encI 0 (n : Int) = enc n := by simp [encI]
  rw [e] at h1
  exact h1⟩
 have HCELL := Aside0.mk hcell
 have HE := Aside0.mk hE
 clear h hP0 hcell hE hgw HB HC
 have ha1 := assert_wr ⟨gw, 0, none⟩
 have ha2 := assert_ww ⟨gw, 0, none⟩
 go_enter Tryz.func67, Tryz.ntmps67
 go_wp2_with (fail)
 refine HCN.out.mono ?_
 rintro en w1 ⟨rfl, hp0⟩
 have HP0 := Aside0.mk hp0
 have hc1 := HCELL.out _ _ hp0
 clear hp0 hp
 go_wp2
 go_loopw [56] (fun a wr => ∃ (i : Nat), i ≤ n ∧ a = .int .i64 i ∧ Aside0 (P i wr)) (fun a _ => n - (intOf a).toNat)
 case atStart => exact ⟨0, Nat.zero_le _, rfl, HP0⟩
 case round =>
  clear HP0 hc1
  obtain ⟨i, hi, rfl, HP⟩ := hrel
  have hc2 := HCELL.out _ _ HP.out
  by_cases hlt : i < n
  ·obtain ⟨ad, rfl, hcall⟩ := HE.out i wr hlt HP.out
   have HCL := Aside0.mk hcall
   clear hcall
   go_wp2_with (fail)
   refine HCL.out.mono ?_
   rintro en w2 ⟨rfl, hp2⟩
   have HP2 := Aside0.mk hp2
   clear hp2
   go_wp2
   go_roundw
   case rel => exact ⟨i + 1, by omega, by go_num, HP2⟩
   case measure => simp [intOf]; omega
  ·go_wp2
   go_end0
   have e : i = n := by omega
   rw [← e]
   exact ⟨rfl, HP.out⟩

set_option maxHeartbeats 4000000 in
set_option maxRecDepth 100000 in
theorem wlist_73_74 (w0 : World) (gw : Nat) (p : Addr) (A : Option Addr) (n c : Nat) (v0 v1 : Value) (bs : List Int) (w : World) (P : Nat → World → Prop) (h : Wt w0 gw w bs) (hbs : bs.length ≤ 1000000000000) (hn : n ≤ 1000000) (hp : w.cell? p = some (.slice A n c))
  (hP0 : ∀ w1, Wt w0 gw w1 (bs ++ enc n) → WStep gw w w1 → P 0 w1) (hcell : ∀ i wr, P i wr → wr.cell? p = some (.slice A n c))
  (hE : ∀ i wr, i < n → P i wr → ∃ ad, A = some ad ∧ Calls Tryz.prog 66 #[.pointer (some (ad.add i)), v0, v1] wr fun e w' => e = .returned (.tuple #[]) ∧ P (i + 1) w') :
  Calls Tryz.prog 65 #[.iface 95 (.pointer (some ⟨gw, 0, none⟩)), .pointer (some p), .func (.func 66) #[] #[v0, v1]] w fun e w' => e = .returned (.tuple #[]) ∧ P n w' := by
 have HB : Aside0 (Below w.heap.size w (w.alloc (.cells #[.int .i64 n] 3))) := ⟨below_alloc (Below.refl _ _) _⟩
 have HC : Aside0 ((w.alloc (.cells #[.int .i64 (n : Int)] 3)).heap[w.heap.size]? = some (.cells #[.int .i64 (n : Int)] 3 (0, 0))) := ⟨heap_alloc_new w _⟩
 have hgw : w.heap.size ≠ gw := by
  obtain ⟨v, hv, -⟩ := h.row
  have := blk_lt hv
  omega
 have HCN : Aside0 (Calls Tryz.prog 59 #[.iface 95 (.pointer (some ⟨gw, 0, none⟩)), .pointer (some ⟨w.heap.size, 0, none⟩), .int .i64 0] (w.alloc (.cells #[.int .i64 (n : Int)] 3)) fun e w' => e = .returned (.tuple #[]) ∧ P 0 w') := ⟨by
  refine (winteger_any w0 gw ⟨w.heap.size, 0, none⟩ n 0 bs _ (h.after HB.out) (cell_of_one HC.out) (free_of_one HC.out) (.inr ⟨3, _, hgw, by decide, HC.out⟩) (by omega) (by omega) (by omega) hbs).mono ?_
  rintro e w' ⟨rfl, h1, h2⟩
  refine ⟨rfl, hP0 w' ?_ ((WStep.of_below HB.out).trans h2)⟩
  have e : encI 0 (n : Int) = enc n := by simp [encI]
  rw [e] at h1
  exact h1⟩
 have HCELL := Aside0.mk hcell
 have HE := Aside0.mk hE
 clear h hP0 hcell hE hgw HB HC
 have ha1 := assert_wr ⟨gw, 0, none⟩
 have ha2 := assert_ww ⟨gw, 0, none⟩
 go_enter Tryz.func65, Tryz.ntmps65
 go_wp2_with (fail)
 refine HCN.out.mono ?_
 rintro en w1 ⟨rfl, hp0⟩
 have HP0 := Aside0.mk hp0
 have hc1 := HCELL.out _ _ hp0
 clear hp0 hp
 go_wp2
 go_loopw [56] (fun a wr => ∃ (i : Nat), i ≤ n ∧ a = .int .i64 i ∧ Aside0 (P i wr)) (fun a _ => n - (intOf a).toNat)
 case atStart => exact ⟨0, Nat.zero_le _, rfl, HP0⟩
 case round =>
  clear HP0 hc1
  obtain ⟨i, hi, rfl, HP⟩ := hrel
  have hc2 := HCELL.out _ _ HP.out
  by_cases hlt : i < n
  ·obtain ⟨ad, rfl, hcall⟩ := HE.out i wr hlt HP.out
   have HCL := Aside0.mk hcall
   clear hcall
   go_wp2_with (fail)
   refine HCL.out.mono ?_
   rintro en w2 ⟨rfl, hp2⟩
   have HP2 := Aside0.mk hp2
   clear hp2
   go_wp2
   go_roundw
   case rel => exact ⟨i + 1, by omega, by go_num, HP2⟩
   case measure => simp [intOf]; omega
  ·go_wp2
   go_end0
   have e : i = n := by omega
   rw [← e]
   exact ⟨rfl, HP.out⟩

set_option maxHeartbeats 4000000 in
set_option maxRecDepth 100000 in
theorem wlist_68_69 (w0 : World) (gw : Nat) (p : Addr) (A : Option Addr) (n c : Nat) (v0 v1 v2 : Value) (bs : List Int) (w : World) (P : Nat → World → Prop) (h : Wt w0 gw w bs) (hbs : bs.length ≤ 1000000000000) (hn : n ≤ 1000000) (hp : w.cell? p = some (.slice A n c))
  (hP0 : ∀ w1, Wt w0 gw w1 (bs ++ enc n) → WStep gw w w1 → P 0 w1) (hcell : ∀ i wr, P i wr → wr.cell? p = some (.slice A n c))
  (hE : ∀ i wr, i < n → P i wr → ∃ ad, A = some ad ∧ Calls Tryz.prog 61 #[.pointer (some (ad.add (i * 5))), v0, v1, v2] wr fun e w' => e = .returned (.tuple #[]) ∧ P (i + 1) w') :
  Calls Tryz.prog 60 #[.iface 95 (.pointer (some ⟨gw, 0, none⟩)), .pointer (some p), .func (.func 61) #[] #[v0, v1, v2]] w fun e w' => e = .returned (.tuple #[]) ∧ P n w' := by
 have HB : Aside0 (Below w.heap.size w (w.alloc (.cells #[.int .i64 n] 3))) := ⟨below_alloc (Below.refl _ _) _⟩
 have HC : Aside0 ((w.alloc (.cells #[.int .i64 (n : Int)] 3)).heap[w.heap.size]? = some (.cells #[.int .i64 (n : Int)] 3 (0, 0))) := ⟨heap_alloc_new w _⟩
 have hgw : w.heap.size ≠ gw := by
  obtain ⟨v, hv, -⟩ := h.row
  have := blk_lt hv
  omega
 have HCN : Aside0 (Calls Tryz.prog 59 #[.iface 95 (.pointer (some ⟨gw, 0, none⟩)), .pointer (some ⟨w.heap.size, 0, none⟩), .int .i64 0] (w.alloc (.cells #[.int .i64 (n : Int)] 3)) fun e w' => e = .returned (.tuple #[]) ∧ P 0 w') := ⟨by
  refine (winteger_any w0 gw ⟨w.heap.size, 0, none⟩ n 0 bs _ (h.after HB.out) (cell_of_one HC.out) (free_of_one HC.out) (.inr ⟨3, _, hgw, by decide, HC.out⟩) (by omega) (by omega) (by omega) hbs).mono ?_
  rintro e w' ⟨rfl, h1, h2⟩
  refine ⟨rfl, hP0 w' ?_ ((WStep.of_below HB.out).trans h2)⟩
  have e : encI 0 (n : Int) = enc n := by simp [encI]
  rw [e] at h1
  exact h1⟩
 have HCELL := Aside0.mk hcell
 have HE := Aside0.mk hE
 clear h hP0 hcell hE hgw HB HC
 have ha1 := assert_wr ⟨gw, 0, none⟩
 have ha2 := assert_ww ⟨gw, 0, none⟩
 go_enter Tryz.func60, Tryz.ntmps60
 go_wp2_with (fail)
 refine HCN.out.mono ?_
 rintro en w1 ⟨rfl, hp0⟩
 have HP0 := Aside0.mk hp0
 have hc1 := HCELL.out _ _ hp0
 clear hp0 hp
 go_wp2
 go_loopw [56] (fun a wr => ∃ (i : Nat), i ≤ n ∧ a = .int .i64 i ∧ Aside0 (P i wr)) (fun a _ => n - (intOf a).toNat)
 case atStart => exact ⟨0, Nat.zero_le _, rfl, HP0⟩
 case round =>
  clear HP0 hc1
  obtain ⟨i, hi, rfl, HP⟩ := hrel
  have hc2 := HCELL.out _ _ HP.out
  by_cases hlt : i < n
  ·obtain ⟨ad, rfl, hcall⟩ := HE.out i wr hlt HP.out
   have HCL := Aside0.mk hcall
   clear hcall
   go_wp2_with (fail)
   refine HCL.out.mono ?_
   rintro en w2 ⟨rfl, hp2⟩
   have HP2 := Aside0.mk hp2
   clear hp2
   go_wp2
   go_roundw
   case rel => exact ⟨i + 1, by omega, by go_num, HP2⟩
   case measure => simp [intOf]; omega
  ·go_wp2
   go_end0
   have e : i = n := by omega
   rw [← e]
   exact ⟨rfl, HP.out⟩

end Go.Proofs.YtihjjkoddphmiaaGreatDoor.img

namespace Go.Proofs.YtihjjkoddphmiaaGreatDoor.img
open Go.RowKit Go.Proofs.YtihjjkoddphmiaaGreatDoorW.PrintWords Go.Proofs.YtihjjkoddphmiaaGreatDoorW.PrintMore Go.Proofs.YtihjjkoddphmiaaGreatDoor.PImageApart
set_option linter.unusedVariables false
set_option linter.unusedSimpArgs false

/-- What reads one element into a new variable (block xb). -/
def REach {σ α : Type} (w0 : World) (gr : Nat) (B : Option Addr) (c : Nat) (bs : List Int) (base : Nat) (fn : Nat) (caps : List Value) (e : Nat) (Z : Array Value) (d : Kd α) (each : σ → Nat → Res (α × σ)) (I : σ → World → Prop) (D : Nat → Prop) : Prop :=
 ∀ s pos wr xb, Rr w0 gr B c bs pos wr → I s wr → wr.heap[xb]? = some (.cells Z e (0, 0)) → base ≤ xb →
  Calls Tryz.prog fn (.pointer (some ⟨xb, 0, none⟩) :: caps).toArray wr
   (RPost (Bd w0 wr gr xb e Z.size D) (each s pos) fun x q w' => Rr w0 gr B c bs q w' ∧ I x.2 w' ∧ Kept wr w' (fun k => k = gr ∨ k = xb ∨ D k) ∧ ∃ cs', w'.heap[xb]? = some (.cells cs' e (0, 0)) ∧ d.M w' wr.heap.size (fun _ => True) x.1 cs'.toList)

/-- The captured coder. -/
def IQ (gr : Nat) (q : Addr) (_ : Unit) (w : World) : Prop := w.cell? q = some (.iface 82 (.pointer (some ⟨gr, 0, none⟩)))

theorem kept3 {w w2 : World} {a b : Nat} {D : Nat → Prop} (h : Kept w w2 (fun k => k = a ∨ k = b)) : Kept w w2 (fun k => k = a ∨ k = b ∨ D k) := h.mono (fun k e => e.elim (fun e => .inl e) (fun e => .inr (.inl e)))

set_option maxHeartbeats 4000000 in
set_option maxRecDepth 100000 in
theorem rplain_each (w0 : World) (gr : Nat) (B : Option Addr) (c : Nat) (bs : List Int) (base : Nat) (q : Addr) (hbb : Bytes bs) (hbl : bs.length ≤ 1000000000) (hgr : gr < base) (h0 : w0.heap.size ≤ base) (hq : q.block < base) (hqr : q.block ≠ gr) :
  REach w0 gr B c bs base 58 [.pointer (some q)] 3 #[.int .i64 0] (Kd.int .i64) (plain bs 0) (IQ gr q) (fun _ => False) := by
 intro s pos wr xb h hI hx hb
 have hc : wr.cell? q = some (.iface 82 (.pointer (some ⟨gr, 0, none⟩))) := hI
 have HC := Aside0.mk (rinteger_any w0 gr xb 0 3 c pos 0 B bs #[.int .i64 0] wr hbb hbl h hx rfl (by omega) (by omega) (by omega))
 have HQ := Aside0.mk (show q.block ≠ gr ∧ q.block ≠ xb by omega)
 clear h hI hx
 obtain ⟨R, hR⟩ : ∃ R, int bs 0 pos = R := ⟨_, rfl⟩
 have HR : Aside0 (plain bs 0 s pos = R.bind fun n p => .ok (n, ()) p) := ⟨by rw [← hR]; rfl⟩
 rw [hR] at HC
 clear hR
 cases R with
 | bad p code =>
  go_enter Tryz.func58, Tryz.ntmps58
  go_wp2_with (fail)
  refine HC.out.mono ?_
  rintro en w2 ⟨rfl, hb2⟩
  exact ⟨rfl, RPost.of_bad HR.out hb2⟩
 | ok n p =>
  go_enter Tryz.func58, Tryz.ntmps58
  go_wp2_with (fail)
  refine HC.out.mono ?_
  rintro en w2 ⟨rfl, hr2, hk2, hb2⟩
  have H := Aside0.mk (And.intro hr2 (And.intro hk2 hb2))
  have HQ2 := Aside0.mk (cell_kept hc hk2 (by have := HQ.out; omega))
  clear hr2 hk2 hb2 hc
  go_wp2
  go_end0
  obtain ⟨h1, h2, h3⟩ := H.out
  exact RPost.of_ok HR.out ⟨h1, HQ2.out, kept3 h2, _, h3, rfl⟩

set_option maxHeartbeats 4000000 in
set_option maxRecDepth 100000 in
theorem rhandle_each (w0 : World) (gr : Nat) (B : Option Addr) (c : Nat) (bs : List Int) (base : Nat) (q : Addr) (hbb : Bytes bs) (hbl : bs.length ≤ 1000000000) (hgr : gr < base) (h0 : w0.heap.size ≤ base) (hq : q.block < base) (hqr : q.block ≠ gr) :
  REach w0 gr B c bs base 69 [.pointer (some q)] 3 #[.int .i64 0] (Kd.int .i64) (plain bs 1) (IQ gr q) (fun _ => False) := by
 intro s pos wr xb h hI hx hb
 have hc : wr.cell? q = some (.iface 82 (.pointer (some ⟨gr, 0, none⟩))) := hI
 have HC := Aside0.mk (rinteger_any w0 gr xb 0 3 c pos 1 B bs #[.int .i64 0] wr hbb hbl h hx rfl (by omega) (by omega) (by omega))
 have HQ := Aside0.mk (show q.block ≠ gr ∧ q.block ≠ xb by omega)
 clear h hI hx
 obtain ⟨R, hR⟩ : ∃ R, int bs 1 pos = R := ⟨_, rfl⟩
 have HR : Aside0 (plain bs 1 s pos = R.bind fun n p => .ok (n, ()) p) := ⟨by rw [← hR]; rfl⟩
 rw [hR] at HC
 clear hR
 cases R with
 | bad p code =>
  go_enter Tryz.func69, Tryz.ntmps69
  go_wp2_with (fail)
  refine HC.out.mono ?_
  rintro en w2 ⟨rfl, hb2⟩
  exact ⟨rfl, RPost.of_bad HR.out hb2⟩
 | ok n p =>
  go_enter Tryz.func69, Tryz.ntmps69
  go_wp2_with (fail)
  refine HC.out.mono ?_
  rintro en w2 ⟨rfl, hr2, hk2, hb2⟩
  have H := Aside0.mk (And.intro hr2 (And.intro hk2 hb2))
  have HQ2 := Aside0.mk (cell_kept hc hk2 (by have := HQ.out; omega))
  clear hr2 hk2 hb2 hc
  go_wp2
  go_end0
  obtain ⟨h1, h2, h3⟩ := H.out
  exact RPost.of_ok HR.out ⟨h1, HQ2.out, kept3 h2, _, h3, rfl⟩

set_option maxHeartbeats 4000000 in
set_option maxRecDepth 100000 in
theorem rraw_each (w0 : World) (gr : Nat) (B : Option Addr) (c : Nat) (bs : List Int) (base : Nat) (q : Addr) (hbb : Bytes bs) (hbl : bs.length ≤ 1000000000) (hgr : gr < base) (h0 : w0.heap.size ≤ base) (hq : q.block < base) (hqr : q.block ≠ gr) :
  REach w0 gr B c bs base 64 [.pointer (some q)] 42 #[.int .u64 0] (Kd.int .u64) (raw bs) (IQ gr q) (fun _ => False) := by
 intro s pos wr xb h hI hx hb
 have hc : wr.cell? q = some (.iface 82 (.pointer (some ⟨gr, 0, none⟩))) := hI
 have HC := Aside0.mk (rnumber_any w0 gr xb 0 42 c pos 18446744073709551615 B bs #[.int .u64 0] wr hbb hbl h hx (by simp) (by omega) (by omega) (by omega))
 have HQ := Aside0.mk (show q.block ≠ gr ∧ q.block ≠ xb by omega)
 have hmr := method_r ⟨gr, 0, none⟩
 clear h hI hx
 obtain ⟨R, hR⟩ : ∃ R, num bs 18446744073709551615 pos = R := ⟨_, rfl⟩
 have HR : Aside0 (raw bs s pos = R.bind fun n p => .ok ((n : Int), ()) p) := ⟨by rw [← hR]; rfl⟩
 rw [hR] at HC
 clear hR
 cases R with
 | bad p code =>
  go_enter Tryz.func64, Tryz.ntmps64
  go_wp2_with (fail)
  refine HC.out.mono ?_
  rintro en w2 ⟨rfl, hb2⟩
  exact ⟨rfl, RPost.of_bad HR.out hb2⟩
 | ok n p =>
  go_enter Tryz.func64, Tryz.ntmps64
  go_wp2_with (fail)
  refine HC.out.mono ?_
  rintro en w2 ⟨rfl, hr2, hk2, hb2⟩
  have H := Aside0.mk (And.intro hr2 (And.intro hk2 hb2))
  have HQ2 := Aside0.mk (cell_kept hc hk2 (by have := HQ.out; omega))
  clear hr2 hk2 hb2 hc
  go_wp2
  go_end0
  obtain ⟨h1, h2, h3⟩ := H.out
  exact RPost.of_ok HR.out ⟨h1, HQ2.out, kept3 h2, _, h3, rfl⟩

end Go.Proofs.YtihjjkoddphmiaaGreatDoor.img

namespace Go.Proofs.YtihjjkoddphmiaaGreatDoor.img
open Go.RowKit Go.Proofs.YtihjjkoddphmiaaGreatDoorW.PrintWords Go.Proofs.YtihjjkoddphmiaaGreatDoorW.PrintMore Go.Proofs.YtihjjkoddphmiaaGreatDoor.PImageApart
set_option linter.unusedVariables false
set_option linter.unusedSimpArgs false

theorem assert_rr (a : Addr) (w : World) : (Instr.typeAssert (.iface 82 (.pointer (some a))) 101 82 true).run Tryz.prog w = .ok (.tuple #[.pointer (some a), .bool true]) w := by kernel_rfl

theorem bind_nil {σ α : Type} (r : Res (List α × σ)) : r.bind (fun y p => .ok ([] ++ y.1, y.2) p) = r := by cases r <;> rfl
theorem one_cell {cx : Array Value} {u : Value} (h : cx.toList = [u]) : cx = #[u] := by
 have := congrArg List.toArray h
 simpa using this

section
variable {σ α : Type}
/-- The list's loop with a reader: where it stands. -/
structure RL (w0 w : World) (gr gp off t c : Nat) (B : Option Addr) (bs : List Int) (cs : Array Value) (d : Kd α) (e : Nat) (I : σ → World → Prop) (D : Nat → Prop) (xs : List α) (s : σ) (q : Nat) (v : Value) (wr : World) : Prop where
 rr : Rr w0 gr B c bs q wr
 inv : I s wr
 kept : Kept w wr (fun k => k = gr ∨ k = gp ∨ D k)
 blk : wr.heap[gp]? = some (.cells (cs.setIfInBounds off v) t (0, 0))
 row : Rsp d e wr w.heap.size (fun _ => True) v xs wr.heap.size
/-- What is said of the elder blocks but the list's and the reader's. -/
def Firm (w : World) (gr gp : Nat) (I : σ → World → Prop) : Prop := ∀ s w1 w2, I s w1 → (∀ k, k < w.heap.size → k ≠ gp → k ≠ gr → w2.heap[k]? = w1.heap[k]?) → I s w2
/-- Behind one element's call. -/
structure RM (w0 w wr : World) (gr gp off t c : Nat) (B : Option Addr) (bs : List Int) (cs : Array Value) (d : Kd α) (e : Nat) (I : σ → World → Prop) (D : Nat → Prop) (xs : List α) (x : α) (cx : Array Value) (s : σ) (q : Nat) (v : Value) (w2 : World) : Prop where
 rr : Rr w0 gr B c bs q w2
 inv : I s w2
 kept : Kept w w2 (fun k => k = gr ∨ k = gp ∨ D k)
 blk : w2.heap[gp]? = some (.cells (cs.setIfInBounds off v) t (0, 0))
 row : Rsp d e w2 w.heap.size (fun _ => True) v xs wr.heap.size
 new : w2.heap[wr.heap.size]? = some (.cells cx e (0, 0))
 el : d.M w2 w.heap.size (fun k => wr.heap.size ≤ k) x cx.toList
 own : ∀ k, v.ownBlock = some k → w.heap.size ≤ k ∧ k < wr.heap.size
variable {w0 w wr : World} {gr gp off t c : Nat} {B : Option Addr} {bs : List Int} {cs : Array Value} {d : Kd α} {e : Nat} {I : σ → World → Prop} {D : Nat → Prop} {xs : List α} {s s2 : σ} {q p : Nat} {v : Value}
theorem RL.room (h : RL w0 w gr gp off t c B bs cs d e I D xs s q v wr) (hF : Firm w gr gp I) (o : Obj) : Rr w0 gr B c bs q (wr.alloc o) ∧ I s (wr.alloc o) :=
 ⟨h.rr.below (below_alloc (Below.refl _ _) o), hF s wr _ h.inv (fun k hk _ _ => Below.heap_alloc wr o k (Nat.lt_of_lt_of_le hk h.kept.1))⟩
theorem RL.bd (h : RL w0 w gr gp off t c B bs cs d e I D xs s q v wr) : Bd w0 w gr gp t cs.size D wr := ⟨h.rr.bel, h.kept, _, h.blk, by simp⟩
theorem own_of_R (h : d.R e wr w.heap.size (fun _ => True) v xs) : ∀ k, v.ownBlock = some k → w.heap.size ≤ k ∧ k < wr.heap.size := by
 intro k hk
 obtain ⟨_, inner, ho, _⟩ := h
 exact ⟨own_base ho k hk, own_lt ho k hk⟩
theorem RL.mid (h : RL w0 w gr gp off t c B bs cs d e I D xs s q v wr) {o : Obj} {w2 : World} {x : α} {cx : Array Value} (hgr : gr < w.heap.size) (hgp : gp < w.heap.size) (hne : gp ≠ gr) (hD : ∀ k, D k → k < w.heap.size ∧ k ≠ gp ∧ k ≠ gr)
  (hr2 : Rr w0 gr B c bs p w2) (hi2 : I s2 w2) (hk2 : Kept (wr.alloc o) w2 (fun k => k = gr ∨ k = wr.heap.size ∨ D k)) (hb2 : w2.heap[wr.heap.size]? = some (.cells cx e (0, 0))) (hm2 : d.M w2 (wr.alloc o).heap.size (fun _ => True) x cx.toList) :
  RM w0 w wr gr gp off t c B bs cs d e I D xs x cx s2 p v w2 := by
 have hle := h.kept.1
 have hsz : (wr.alloc o).heap.size = wr.heap.size + 1 := by simp
 have hba : Below wr.heap.size wr (wr.alloc o) := below_alloc (Below.refl _ _) o
 refine ⟨hr2, hi2, ?_, blk_kept (blk_below h.blk hba) hk2 ?_, ?_, hb2, ?_, own_of_R h.row.toR⟩
 ·refine (h.kept.below hba).then_ hk2 ?_
  rintro k (e | e | e)
  ·exact .inl (.inl e)
  ·exact .inr (by omega)
  ·exact .inl (.inr (.inr e))
 ·rintro (e | e | e)
  ·omega
  ·omega
  ·exact (hD _ e).2.1 rfl
 ·refine ((h.row.bound.below hba).kept hk2 ?_).mono (fun _ hk => trivial) (Nat.le_refl _)
  rintro k ⟨-, h1, h2, -⟩ (e | e | e)
  ·omega
  ·omega
  ·have := (hD _ e).1
   omega
 ·exact d.M_lower (by omega) (d.M_mono (fun k hk => by have := hk.2.1; omega) (d.M_bound hm2))
theorem RM.next {x : α} {cx : Array Value} {w2 W w1 : World} {v1 : Value} (h : RM w0 w wr gr gp off t c B bs cs d e I D xs x cx s2 p v w2) (hgr : gr < w.heap.size) (hgp : gp < w.heap.size) (hne : gp ≠ gr) (h0 : w0.heap.size ≤ gp) (hF : Firm w gr gp I)
  (hW : Below w2.heap.size w2 W) (hg : W.grownBy w1 v.ownBlock) (ho : Rsp d e w1 w.heap.size (fun _ => True) v1 (xs ++ [x]) W.heap.size) (hty : ∀ q, q ∈ e :: d.E → q ≠ t) :
  RL w0 w gr gp off t c B bs cs d e I D (xs ++ [x]) s2 p v1 (w1.setCell ⟨gp, off, none⟩ v1) := by
 have hro : ∀ k, k < w.heap.size → some k ≠ v.ownBlock := fun k hk e => by have := (h.own k e.symm).1; omega
 have hk : Kept w w1 (fun k => k = gr ∨ k = gp ∨ D k) := Kept.of_grown hg (h.kept.below hW) (fun k hk => .inr (h.own k hk).1)
 have hrr : Rr w0 gr B c bs p w1 := ⟨?_, h.rr.old, blk_grown (blk_below h.rr.blk hW) hg (hro _ hgr), h.rr.row, h.rr.le⟩
 have hb : w1.heap[gp]? = some (.cells (cs.setIfInBounds off v) t (0, 0)) := blk_grown (blk_below h.blk hW) hg (hro _ hgp)
 refine ⟨hrr.other hne h0 _, hF _ _ _ h.inv ?_, hk.setCell (.inl (.inr (.inl rfl))) _, ?_, (ho.set hb hty _ _).mono (fun _ _ => trivial) (by have := hg.size; simpa [World.setCell] using this)⟩
 ·intro k hk1 hk2 hk3
  rw [Below.heap_setCell _ _ _ _ hk2, hg.block k (Nat.lt_of_lt_of_le hk1 (Nat.le_trans h.kept.1 hW.size)) (hro k hk1), hW.block k (Nat.lt_of_lt_of_le hk1 h.kept.1)]
 ·have := blk_set hb off v1
  rw [Array.setIfInBounds_setIfInBounds] at this
  exact this
 ·have hw0 : w0.heap.size ≤ w.heap.size := Nat.le_trans h0 (Nat.le_of_lt hgp)
  refine pw_below_grown (below_step h.rr.bel hW) v.ownBlock (below_step h.rr.bel hW).size hg (fun k hk => by have := (h.own k hk).1; omega)
end

theorem info3_ : (Tryz.prog.info? 3).map (fun i => (i.zero, i.size, i.bytes)) = some (some (.int .i64 0), 1, 8) := by kernel_rfl
set_option maxHeartbeats 8000000 in
set_option maxRecDepth 100000 in
theorem rlist_70_66 (w0 : World) (gr : Nat) (B : Option Addr) (c : Nat) (bs : List Int) (hbb : Bytes bs) (hbl : bs.length ≤ 1000000000) (gp off t pos : Nat) (cs : Array Value) (v0 : Value) (w : World) (h : Rr w0 gr B c bs pos w)
  (hp : w.heap[gp]? = some (.cells cs t (0, 0))) (hoff : cs[off]? = some (.slice none 0 0)) (hne : gp ≠ gr) (h0 : w0.heap.size ≤ gp) (ht : ∀ q, q ∈ 3 :: (Kd.int .i64).E → q ≠ t)
  {σ : Type} (each : σ → Nat → Res (Int × σ)) (s : σ) (I : σ → World → Prop) (D : Nat → Prop) (hI : I s w) (hF : Firm w gr gp I) (hD : ∀ k, D k → k < w.heap.size ∧ k ≠ gp ∧ k ≠ gr) (hD0 : ∀ k, D k → w0.heap.size ≤ k)
  (hE : REach w0 gr B c bs w.heap.size 58 [v0] 3 #[.int .i64 0] (Kd.int .i64) each I D) :
  Calls Tryz.prog 62 #[.iface 82 (.pointer (some ⟨gr, 0, none⟩)), .pointer (some ⟨gp, off, none⟩), .func (.func 58) #[] #[v0]] w
   (RPost (Bd w0 w gr gp t cs.size D) (lst bs each s pos) fun x q w' => Rr w0 gr B c bs q w' ∧ I x.2 w' ∧ Kept w w' (fun k => k = gr ∨ k = gp ∨ D k) ∧ ∃ v, w'.heap[gp]? = some (.cells (cs.setIfInBounds off v) t (0, 0)) ∧ Rsp (Kd.int .i64) 3 w' w.heap.size (fun _ => True) v x.1 w'.heap.size) := by
 have hcp : w.cell? ⟨gp, off, none⟩ = some (.slice none 0 0) := (blk_cell hp off).trans hoff
 have hgr := blk_lt h.blk
 have hgp := blk_lt hp
 have hb : Below w.heap.size w (w.alloc (.cells #[.int .i64 0] 3)) := below_alloc (Below.refl _ _) _
 have HC := Aside0.mk (rinteger_any w0 gr w.heap.size 0 3 c pos 0 B bs #[.int .i64 0] (w.alloc (.cells #[.int .i64 0] 3)) hbb hbl (h.below hb) (heap_alloc_new w _) rfl (by omega) h.bel.size (by omega))
 have hset : cs.setIfInBounds off (.slice none 0 0) = cs := by
  apply Array.ext_getElem?
  intro j
  rw [Array.getElem?_setIfInBounds]
  by_cases hj : off = j
  ·subst hj
   rw [if_pos rfl, if_pos (Array.getElem?_eq_some_iff.1 hoff).1, hoff]
  ·rw [if_neg hj]
 have HSTART : Aside0 (∀ w2 q, Rr w0 gr B c bs q w2 → Kept (w.alloc (.cells #[.int .i64 0] 3)) w2 (fun k => k = gr ∨ k = w.heap.size) → RL w0 w gr gp off t c B bs cs (Kd.int .i64) 3 I D [] s q (.slice none 0 0) w2) := ⟨fun w2 q hr hk => by
  refine ⟨hr, hF s w _ hI ?_, ?_, ?_, Rsp_nil _ _ _ _ _ _⟩
  ·intro k h1 h2 h3
   rw [hk.2 k (Nat.lt_of_lt_of_le h1 hb.size) (by omega), hb.block k h1]
  ·refine (Kept.of_below hb _).then_ hk ?_
   rintro k (e | e)
   ·exact .inl (.inl e)
   ·exact .inr (by omega)
  ·rw [hset]
   exact blk_kept (blk_below hp hb) hk (by omega)⟩
 have HBAD : Aside0 (∀ {w2 : World}, Bd w0 (w.alloc (.cells #[.int .i64 0] 3)) gr w.heap.size 3 1 (fun _ => False) w2 → Bd w0 w gr gp t cs.size D w2) := ⟨fun h2 => Bd.new (Kept.of_below hb _) (blk_below hp hb) rfl h2 (Nat.le_refl _) hne hgp (fun k e => e.elim)⟩
 obtain ⟨R, hR⟩ : ∃ R, lst bs each s pos = R := ⟨_, rfl⟩
 rw [hR]
 obtain ⟨N, hN⟩ : ∃ N, num bs great pos = N := ⟨_, rfl⟩
 have HI : Aside0 (int bs 0 pos = N.bind fun n p => .ok ((n : Int) - 0) p) := ⟨by rw [← hN]; rfl⟩
 have HL : Aside0 (N.bind (fun n p => if bs.length - p < n then .bad bs.length 160 else many each n s p) = R) := ⟨by rw [← hN]; exact hR⟩
 rw [HI.out] at HC
 have HNE := Aside0.mk hne
 have H0 := Aside0.mk h0
 have HFI := Aside0.mk hF
 have HD := Aside0.mk hD
 have HEE := Aside0.mk hE
 have HGR := Aside0.mk hgr
 have HGP := Aside0.mk hgp
 have HT := Aside0.mk ht
 have HB0 := Aside0.mk h.bel.size
 have HOFF := Aside0.mk (Array.getElem?_eq_some_iff.1 hoff).1
 clear hI hF hD hE hgr hgp hset hR hN HI h hp hb ht hoff
 have ha1 := assert_rr ⟨gr, 0, none⟩
 cases N with
 | bad p code =>
  have HX : Aside0 (R = .bad p code) := ⟨HL.out.symm⟩
  go_enter Tryz.func62, Tryz.ntmps62
  go_wp2_with (fail)
  refine HC.out.mono ?_
  rintro en w2 ⟨rfl, hb2⟩
  exact ⟨rfl, RPost.of_bad HX.out (HBAD.out hb2)⟩
 | ok m p =>
  go_enter Tryz.func62, Tryz.ntmps62
  go_wp2_with (fail)
  refine HC.out.mono ?_
  rintro en w2 ⟨rfl, hr2, hk2, hb2⟩
  have HS := Aside0.mk (HSTART.out w2 p hr2 hk2)
  have hple := hr2.le
  have hn2 : w2.cell? ⟨w.heap.size, 0, none⟩ = some (.int .i64 (m : Int)) := by
   rw [blk_cell hb2 0]
   simp
  have hr20 : w2.cell? ⟨gr, 0, none⟩ = some (.slice B bs.length c) := (blk_cell hr2.blk 0).trans rfl
  have hr21 : w2.cell? ⟨gr, 1, none⟩ = some (.int .i64 p) := (blk_cell hr2.blk 1).trans rfl
  have hwr : IntKind.i64.wrap ((bs.length : Int) - (p : Int)) = (bs.length : Int) - p := by rw [IntKind.wrap_i64]; omega
  clear hr2 hk2 hb2
  by_cases hsh : bs.length - p < m
  ·have HX : Aside0 (R = .bad bs.length 160) := ⟨by rw [← HL.out]; simp only [Res.bind]; rw [if_pos hsh]⟩
   have HCS : Aside0 (∀ nq, Calls Tryz.prog 57 #[.pointer (some ⟨gr, 0, none⟩)] (w2.drewN nq) fun e w' => e = .panicked (failed bs.length 160) ∧ w2.drewN nq = w') := ⟨fun nq => rshort_any w0 gr c p B bs _ (HS.out.rr.below (pw_below_drewN (Below.refl _ _) nq))⟩
   have p1 : (bs.length : Int) - (p : Int) < (m : Int) := by omega
   have t1 : decide ((bs.length : Int) - (p : Int) < (m : Int)) = true := by simp only [decide_eq_true_eq]; omega
   clear hsh
   go_wp2_with (fail)
   go_quiet (fail)
   go_wp2_with (fail)
   refine (HCS.out _).mono ?_
   rintro e w' ⟨rfl, rfl⟩
   exact ⟨rfl, RPost.of_bad HX.out (HS.out.bd.below (pw_below_drewN (Below.refl _ _) _))⟩
  ·have HX : Aside0 (many each m s p = R) := ⟨by rw [← HL.out]; simp only [Res.bind]; rw [if_neg hsh]⟩
   have hmb : m ≤ bs.length := by omega
   have p1 : ¬ (bs.length : Int) - (p : Int) < (m : Int) := by omega
   have p2 : (m : Int) ≤ (bs.length : Int) - (p : Int) := by omega
   have t1 : decide ((bs.length : Int) - (p : Int) < (m : Int)) = false := by simp only [decide_eq_false_iff_not]; omega
   clear hsh
   go_wp2_with (fail)
   go_quiet (fail)
   go_wp2_with (fail)
   refine wp_world (p := RL w0 w gr gp off t c B bs cs (Kd.int .i64) 3 I D [] s p (.slice none 0 0)) ?_ ?_
   ·have hd := fun m => pw_below_drewN (Below.refl w2.heap.size w2) m
    have h := HS.out
    exact ⟨h.rr.below (hd _), HFI.out _ _ _ h.inv (fun _ _ _ _ => rfl), h.kept.drewN _, h.blk, (h.row.below (hd _)).mono (fun _ h => h) (Nat.le_refl _)⟩
   clear hr20 hr21 hn2 hwr HS HSTART HC HL hcp p1 p2 t1 ha1
   intro w3 hs3
   have HS3 := Aside0.mk hs3
   clear hs3
   have HXS : Aside0 ((many each (m - 0) s p).bind (fun y p => .ok ([] ++ y.1, y.2) p) = R) := ⟨by rw [Nat.sub_zero, bind_nil]; exact HX.out⟩
   clear HX
   go_loopw [36] (fun a wr => ∃ (i q : Nat) (s' : σ) (xs : List (Int)) (v : Value), a = .int .i64 i ∧ i ≤ m ∧ Aside0 (xs.length = i) ∧ Aside0 ((many each (m - i) s' q).bind (fun y p => .ok (xs ++ y.1, y.2) p) = R) ∧ Aside0 (RL w0 w gr gp off t c B bs cs (Kd.int .i64) 3 I D xs s' q v wr)) (fun a _ => m - (intOf a).toNat)
   case atStart => exact ⟨0, p, s, [], .slice none 0 0, rfl, by omega, ⟨rfl⟩, HXS, HS3⟩
   case round =>
    clear HXS HS3
    obtain ⟨i, q, s', xs, v, rfl, hi, HLN, HRR, HRL⟩ := hrel
    by_cases hlt : i < m
    ·have HU : Aside0 (((each s' q).bind fun x p1 => (many each (m - (i + 1)) x.2 p1).bind fun y p2 => .ok (x.1 :: y.1, y.2) p2).bind (fun y p => .ok (xs ++ y.1, y.2) p) = R) := ⟨by
      have := HRR.out
      rw [show m - i = (m - (i + 1)) + 1 by omega, many] at this
      exact this⟩
     have hroom := HRL.out.room HFI.out (.cells #[.int .i64 0] 3)
     have HCE := Aside0.mk (HEE.out s' q (wr.alloc (.cells #[.int .i64 0] 3)) wr.heap.size hroom.1 hroom.2 (heap_alloc_new wr _) HRL.out.kept.1)
     clear hroom
     obtain ⟨X, hX⟩ : ∃ X, each s' q = X := ⟨_, rfl⟩
     rw [hX] at HU HCE
     clear hX HRR
     cases X with
     | bad q2 code =>
      have HB : Aside0 (R = .bad q2 code) := ⟨HU.out.symm⟩
      go_wp2_with (fail)
      refine HCE.out.mono ?_
      rintro en w4 ⟨rfl, hb4⟩
      exact ⟨rfl, RPost.of_bad HB.out (Bd.new (HRL.out.kept.alloc _) (blk_alloc HRL.out.blk _) (by simp) hb4 HRL.out.kept.1 HNE.out HGP.out (fun k e => ⟨.inl e, (HD.out k e).2.1⟩))⟩
     | ok xq q2 =>
      obtain ⟨x, s2⟩ := xq
      have HV : Aside0 ((many each (m - (i + 1)) s2 q2).bind (fun y p => .ok ((xs ++ [x]) ++ y.1, y.2) p) = R) := ⟨by
       have := HU.out
       rw [← this]
       simp only [Res.bind]
       cases many each (m - (i + 1)) s2 q2 <;> simp⟩
      go_wp2_with (fail)
      refine HCE.out.mono ?_
      rintro en w4 ⟨rfl, hr4, hi4, hk4, cx, hb4, hm4⟩
      have HM := Aside0.mk (HRL.out.mid HGR.out HGP.out HNE.out HD.out hr4 hi4 hk4 hb4 hm4)
      obtain rfl := one_cell hm4
      obtain ⟨Av, cv, rfl⟩ := Rsp_slice HM.out.row
      have hcx0 := (blk_cell HM.out.new 0).trans (show _ = some (.int .i64 x) from rfl)
      have hcg : w4.cell? ⟨gp, off, none⟩ = some (.slice Av xs.length cv) := (blk_cell HM.out.blk off).trans (by have := HOFF.out; simp [this])
      have hfg := blk_frozen HM.out.blk off
      have hca : (w4.alloc (.cells #[.int .i64 x] 3)).cell? ⟨gp, off, none⟩ = some (.slice Av xs.length cv) := (blk_cell (blk_alloc HM.out.blk _) off).trans (by have := HOFF.out; simp [this])
      clear hr4 hi4 hk4 hb4 hm4 HU HCE
      have hlx : xs.length < m := by have := HLN.out; omega
      go_wp2_with (fail)
      go_region_law (first | (refine Rsp_append_step (Kd.int .i64) (w0 := w4.drew) (W := w4.drew) w.heap.size (by rfl) (.tmp 43) (.tmp 45) 25 3 (.int .i64 0) 8 (by rfl) Tryz.underlying25 info3_ rfl (by decide) (by decide) (.slice Av xs.length cv) xs x [.int .i64 x] (fun _ => True) wr.heap.size (by rfl) (by rfl) (Kd.M_below HM.out.el (below_drew (Below.refl _ _))) (fun k hk => ⟨trivial, fun e => by have := (HM.out.own k e.symm).2; omega⟩) (fun _ _ => trivial) (HM.out.row.below (below_drew (Below.refl _ _))) (Below.refl _ _) HM.out.kept.1 (by omega) ?_ (Nat.le_of_lt (blk_lt HM.out.new)); intro v1 w1 ho hb hg hat; obtain ⟨A1, c1, rfl⟩ := Rsp_slice ho; have hfz := blk_frozen (blk_grown (w := w4.drew) HM.out.blk hg (fun e => by have := (HM.out.own gp e.symm).1; have := HGP.out; omega)) off; have hcg1 := cell_grown hg hcg (fun e => by have := (HM.out.own gp e.symm).1; have := HGP.out; omega)))
      all_goals
       have HNX := Aside0.mk (HM.out.next HGR.out HGP.out HNE.out H0.out HFI.out (below_drew (Below.refl _ _)) hg ho HT.out)
       rw [List.length_append, List.length_singleton] at HNX
       clear ho hb hg hat hcx0 hcg hca hfg hfz hcg1
       go_wp2_with (fail)
       go_roundw
       case rel => exact ⟨i + 1, q2, s2, xs ++ [x], _, by go_num, by omega, ⟨by rw [List.length_append, HLN.out]; rfl⟩, HV, HNX⟩
       case measure => simp [intOf]; omega
    ·go_wp2_with (fail)
     go_end0
     have hR := HRR.out
     rw [show m - i = 0 by omega] at hR
     have h := HRL.out
     refine RPost.of_ok hR.symm ⟨h.rr, h.inv, h.kept, v, h.blk, ?_⟩
     simpa using h.row

set_option maxHeartbeats 8000000 in
set_option maxRecDepth 100000 in
theorem rlist_70_77 (w0 : World) (gr : Nat) (B : Option Addr) (c : Nat) (bs : List Int) (hbb : Bytes bs) (hbl : bs.length ≤ 1000000000) (gp off t pos : Nat) (cs : Array Value) (v0 : Value) (w : World) (h : Rr w0 gr B c bs pos w)
  (hp : w.heap[gp]? = some (.cells cs t (0, 0))) (hoff : cs[off]? = some (.slice none 0 0)) (hne : gp ≠ gr) (h0 : w0.heap.size ≤ gp) (ht : ∀ q, q ∈ 3 :: (Kd.int .i64).E → q ≠ t)
  {σ : Type} (each : σ → Nat → Res (Int × σ)) (s : σ) (I : σ → World → Prop) (D : Nat → Prop) (hI : I s w) (hF : Firm w gr gp I) (hD : ∀ k, D k → k < w.heap.size ∧ k ≠ gp ∧ k ≠ gr) (hD0 : ∀ k, D k → w0.heap.size ≤ k)
  (hE : REach w0 gr B c bs w.heap.size 69 [v0] 3 #[.int .i64 0] (Kd.int .i64) each I D) :
  Calls Tryz.prog 62 #[.iface 82 (.pointer (some ⟨gr, 0, none⟩)), .pointer (some ⟨gp, off, none⟩), .func (.func 69) #[] #[v0]] w
   (RPost (Bd w0 w gr gp t cs.size D) (lst bs each s pos) fun x q w' => Rr w0 gr B c bs q w' ∧ I x.2 w' ∧ Kept w w' (fun k => k = gr ∨ k = gp ∨ D k) ∧ ∃ v, w'.heap[gp]? = some (.cells (cs.setIfInBounds off v) t (0, 0)) ∧ Rsp (Kd.int .i64) 3 w' w.heap.size (fun _ => True) v x.1 w'.heap.size) := by
 have hcp : w.cell? ⟨gp, off, none⟩ = some (.slice none 0 0) := (blk_cell hp off).trans hoff
 have hgr := blk_lt h.blk
 have hgp := blk_lt hp
 have hb : Below w.heap.size w (w.alloc (.cells #[.int .i64 0] 3)) := below_alloc (Below.refl _ _) _
 have HC := Aside0.mk (rinteger_any w0 gr w.heap.size 0 3 c pos 0 B bs #[.int .i64 0] (w.alloc (.cells #[.int .i64 0] 3)) hbb hbl (h.below hb) (heap_alloc_new w _) rfl (by omega) h.bel.size (by omega))
 have hset : cs.setIfInBounds off (.slice none 0 0) = cs := by
  apply Array.ext_getElem?
  intro j
  rw [Array.getElem?_setIfInBounds]
  by_cases hj : off = j
  ·subst hj
   rw [if_pos rfl, if_pos (Array.getElem?_eq_some_iff.1 hoff).1, hoff]
  ·rw [if_neg hj]
 have HSTART : Aside0 (∀ w2 q, Rr w0 gr B c bs q w2 → Kept (w.alloc (.cells #[.int .i64 0] 3)) w2 (fun k => k = gr ∨ k = w.heap.size) → RL w0 w gr gp off t c B bs cs (Kd.int .i64) 3 I D [] s q (.slice none 0 0) w2) := ⟨fun w2 q hr hk => by
  refine ⟨hr, hF s w _ hI ?_, ?_, ?_, Rsp_nil _ _ _ _ _ _⟩
  ·intro k h1 h2 h3
   rw [hk.2 k (Nat.lt_of_lt_of_le h1 hb.size) (by omega), hb.block k h1]
  ·refine (Kept.of_below hb _).then_ hk ?_
   rintro k (e | e)
   ·exact .inl (.inl e)
   ·exact .inr (by omega)
  ·rw [hset]
   exact blk_kept (blk_below hp hb) hk (by omega)⟩
 have HBAD : Aside0 (∀ {w2 : World}, Bd w0 (w.alloc (.cells #[.int .i64 0] 3)) gr w.heap.size 3 1 (fun _ => False) w2 → Bd w0 w gr gp t cs.size D w2) := ⟨fun h2 => Bd.new (Kept.of_below hb _) (blk_below hp hb) rfl h2 (Nat.le_refl _) hne hgp (fun k e => e.elim)⟩
 obtain ⟨R, hR⟩ : ∃ R, lst bs each s pos = R := ⟨_, rfl⟩
 rw [hR]
 obtain ⟨N, hN⟩ : ∃ N, num bs great pos = N := ⟨_, rfl⟩
 have HI : Aside0 (int bs 0 pos = N.bind fun n p => .ok ((n : Int) - 0) p) := ⟨by rw [← hN]; rfl⟩
 have HL : Aside0 (N.bind (fun n p => if bs.length - p < n then .bad bs.length 160 else many each n s p) = R) := ⟨by rw [← hN]; exact hR⟩
 rw [HI.out] at HC
 have HNE := Aside0.mk hne
 have H0 := Aside0.mk h0
 have HFI := Aside0.mk hF
 have HD := Aside0.mk hD
 have HEE := Aside0.mk hE
 have HGR := Aside0.mk hgr
 have HGP := Aside0.mk hgp
 have HT := Aside0.mk ht
 have HB0 := Aside0.mk h.bel.size
 have HOFF := Aside0.mk (Array.getElem?_eq_some_iff.1 hoff).1
 clear hI hF hD hE hgr hgp hset hR hN HI h hp hb ht hoff
 have ha1 := assert_rr ⟨gr, 0, none⟩
 cases N with
 | bad p code =>
  have HX : Aside0 (R = .bad p code) := ⟨HL.out.symm⟩
  go_enter Tryz.func62, Tryz.ntmps62
  go_wp2_with (fail)
  refine HC.out.mono ?_
  rintro en w2 ⟨rfl, hb2⟩
  exact ⟨rfl, RPost.of_bad HX.out (HBAD.out hb2)⟩
 | ok m p =>
  go_enter Tryz.func62, Tryz.ntmps62
  go_wp2_with (fail)
  refine HC.out.mono ?_
  rintro en w2 ⟨rfl, hr2, hk2, hb2⟩
  have HS := Aside0.mk (HSTART.out w2 p hr2 hk2)
  have hple := hr2.le
  have hn2 : w2.cell? ⟨w.heap.size, 0, none⟩ = some (.int .i64 (m : Int)) := by
   rw [blk_cell hb2 0]
   simp
  have hr20 : w2.cell? ⟨gr, 0, none⟩ = some (.slice B bs.length c) := (blk_cell hr2.blk 0).trans rfl
  have hr21 : w2.cell? ⟨gr, 1, none⟩ = some (.int .i64 p) := (blk_cell hr2.blk 1).trans rfl
  have hwr : IntKind.i64.wrap ((bs.length : Int) - (p : Int)) = (bs.length : Int) - p := by rw [IntKind.wrap_i64]; omega
  clear hr2 hk2 hb2
  by_cases hsh : bs.length - p < m
  ·have HX : Aside0 (R = .bad bs.length 160) := ⟨by rw [← HL.out]; simp only [Res.bind]; rw [if_pos hsh]⟩
   have HCS : Aside0 (∀ nq, Calls Tryz.prog 57 #[.pointer (some ⟨gr, 0, none⟩)] (w2.drewN nq) fun e w' => e = .panicked (failed bs.length 160) ∧ w2.drewN nq = w') := ⟨fun nq => rshort_any w0 gr c p B bs _ (HS.out.rr.below (pw_below_drewN (Below.refl _ _) nq))⟩
   have p1 : (bs.length : Int) - (p : Int) < (m : Int) := by omega
   have t1 : decide ((bs.length : Int) - (p : Int) < (m : Int)) = true := by simp only [decide_eq_true_eq]; omega
   clear hsh
   go_wp2_with (fail)
   go_quiet (fail)
   go_wp2_with (fail)
   refine (HCS.out _).mono ?_
   rintro e w' ⟨rfl, rfl⟩
   exact ⟨rfl, RPost.of_bad HX.out (HS.out.bd.below (pw_below_drewN (Below.refl _ _) _))⟩
  ·have HX : Aside0 (many each m s p = R) := ⟨by rw [← HL.out]; simp only [Res.bind]; rw [if_neg hsh]⟩
   have hmb : m ≤ bs.length := by omega
   have p1 : ¬ (bs.length : Int) - (p : Int) < (m : Int) := by omega
   have p2 : (m : Int) ≤ (bs.length : Int) - (p : Int) := by omega
   have t1 : decide ((bs.length : Int) - (p : Int) < (m : Int)) = false := by simp only [decide_eq_false_iff_not]; omega
   clear hsh
   go_wp2_with (fail)
   go_quiet (fail)
   go_wp2_with (fail)
   refine wp_world (p := RL w0 w gr gp off t c B bs cs (Kd.int .i64) 3 I D [] s p (.slice none 0 0)) ?_ ?_
   ·have hd := fun m => pw_below_drewN (Below.refl w2.heap.size w2) m
    have h := HS.out
    exact ⟨h.rr.below (hd _), HFI.out _ _ _ h.inv (fun _ _ _ _ => rfl), h.kept.drewN _, h.blk, (h.row.below (hd _)).mono (fun _ h => h) (Nat.le_refl _)⟩
   clear hr20 hr21 hn2 hwr HS HSTART HC HL hcp p1 p2 t1 ha1
   intro w3 hs3
   have HS3 := Aside0.mk hs3
   clear hs3
   have HXS : Aside0 ((many each (m - 0) s p).bind (fun y p => .ok ([] ++ y.1, y.2) p) = R) := ⟨by rw [Nat.sub_zero, bind_nil]; exact HX.out⟩
   clear HX
   go_loopw [36] (fun a wr => ∃ (i q : Nat) (s' : σ) (xs : List (Int)) (v : Value), a = .int .i64 i ∧ i ≤ m ∧ Aside0 (xs.length = i) ∧ Aside0 ((many each (m - i) s' q).bind (fun y p => .ok (xs ++ y.1, y.2) p) = R) ∧ Aside0 (RL w0 w gr gp off t c B bs cs (Kd.int .i64) 3 I D xs s' q v wr)) (fun a _ => m - (intOf a).toNat)
   case atStart => exact ⟨0, p, s, [], .slice none 0 0, rfl, by omega, ⟨rfl⟩, HXS, HS3⟩
   case round =>
    clear HXS HS3
    obtain ⟨i, q, s', xs, v, rfl, hi, HLN, HRR, HRL⟩ := hrel
    by_cases hlt : i < m
    ·have HU : Aside0 (((each s' q).bind fun x p1 => (many each (m - (i + 1)) x.2 p1).bind fun y p2 => .ok (x.1 :: y.1, y.2) p2).bind (fun y p => .ok (xs ++ y.1, y.2) p) = R) := ⟨by
      have := HRR.out
      rw [show m - i = (m - (i + 1)) + 1 by omega, many] at this
      exact this⟩
     have hroom := HRL.out.room HFI.out (.cells #[.int .i64 0] 3)
     have HCE := Aside0.mk (HEE.out s' q (wr.alloc (.cells #[.int .i64 0] 3)) wr.heap.size hroom.1 hroom.2 (heap_alloc_new wr _) HRL.out.kept.1)
     clear hroom
     obtain ⟨X, hX⟩ : ∃ X, each s' q = X := ⟨_, rfl⟩
     rw [hX] at HU HCE
     clear hX HRR
     cases X with
     | bad q2 code =>
      have HB : Aside0 (R = .bad q2 code) := ⟨HU.out.symm⟩
      go_wp2_with (fail)
      refine HCE.out.mono ?_
      rintro en w4 ⟨rfl, hb4⟩
      exact ⟨rfl, RPost.of_bad HB.out (Bd.new (HRL.out.kept.alloc _) (blk_alloc HRL.out.blk _) (by simp) hb4 HRL.out.kept.1 HNE.out HGP.out (fun k e => ⟨.inl e, (HD.out k e).2.1⟩))⟩
     | ok xq q2 =>
      obtain ⟨x, s2⟩ := xq
      have HV : Aside0 ((many each (m - (i + 1)) s2 q2).bind (fun y p => .ok ((xs ++ [x]) ++ y.1, y.2) p) = R) := ⟨by
       have := HU.out
       rw [← this]
       simp only [Res.bind]
       cases many each (m - (i + 1)) s2 q2 <;> simp⟩
      go_wp2_with (fail)
      refine HCE.out.mono ?_
      rintro en w4 ⟨rfl, hr4, hi4, hk4, cx, hb4, hm4⟩
      have HM := Aside0.mk (HRL.out.mid HGR.out HGP.out HNE.out HD.out hr4 hi4 hk4 hb4 hm4)
      obtain rfl := one_cell hm4
      obtain ⟨Av, cv, rfl⟩ := Rsp_slice HM.out.row
      have hcx0 := (blk_cell HM.out.new 0).trans (show _ = some (.int .i64 x) from rfl)
      have hcg : w4.cell? ⟨gp, off, none⟩ = some (.slice Av xs.length cv) := (blk_cell HM.out.blk off).trans (by have := HOFF.out; simp [this])
      have hfg := blk_frozen HM.out.blk off
      have hca : (w4.alloc (.cells #[.int .i64 x] 3)).cell? ⟨gp, off, none⟩ = some (.slice Av xs.length cv) := (blk_cell (blk_alloc HM.out.blk _) off).trans (by have := HOFF.out; simp [this])
      clear hr4 hi4 hk4 hb4 hm4 HU HCE
      have hlx : xs.length < m := by have := HLN.out; omega
      go_wp2_with (fail)
      go_region_law (first | (refine Rsp_append_step (Kd.int .i64) (w0 := w4.drew) (W := w4.drew) w.heap.size (by rfl) (.tmp 43) (.tmp 45) 25 3 (.int .i64 0) 8 (by rfl) Tryz.underlying25 info3_ rfl (by decide) (by decide) (.slice Av xs.length cv) xs x [.int .i64 x] (fun _ => True) wr.heap.size (by rfl) (by rfl) (Kd.M_below HM.out.el (below_drew (Below.refl _ _))) (fun k hk => ⟨trivial, fun e => by have := (HM.out.own k e.symm).2; omega⟩) (fun _ _ => trivial) (HM.out.row.below (below_drew (Below.refl _ _))) (Below.refl _ _) HM.out.kept.1 (by omega) ?_ (Nat.le_of_lt (blk_lt HM.out.new)); intro v1 w1 ho hb hg hat; obtain ⟨A1, c1, rfl⟩ := Rsp_slice ho; have hfz := blk_frozen (blk_grown (w := w4.drew) HM.out.blk hg (fun e => by have := (HM.out.own gp e.symm).1; have := HGP.out; omega)) off; have hcg1 := cell_grown hg hcg (fun e => by have := (HM.out.own gp e.symm).1; have := HGP.out; omega)))
      all_goals
       have HNX := Aside0.mk (HM.out.next HGR.out HGP.out HNE.out H0.out HFI.out (below_drew (Below.refl _ _)) hg ho HT.out)
       rw [List.length_append, List.length_singleton] at HNX
       clear ho hb hg hat hcx0 hcg hca hfg hfz hcg1
       go_wp2_with (fail)
       go_roundw
       case rel => exact ⟨i + 1, q2, s2, xs ++ [x], _, by go_num, by omega, ⟨by rw [List.length_append, HLN.out]; rfl⟩, HV, HNX⟩
       case measure => simp [intOf]; omega
    ·go_wp2_with (fail)
     go_end0
     have hR := HRR.out
     rw [show m - i = 0 by omega] at hR
     have h := HRL.out
     refine RPost.of_ok hR.symm ⟨h.rr, h.inv, h.kept, v, h.blk, ?_⟩
     simpa using h.row

theorem info42_ : (Tryz.prog.info? 42).map (fun i => (i.zero, i.size, i.bytes)) = some (some (.int .u64 0), 1, 8) := by kernel_rfl
set_option maxHeartbeats 8000000 in
set_option maxRecDepth 100000 in
theorem rlist_71_72 (w0 : World) (gr : Nat) (B : Option Addr) (c : Nat) (bs : List Int) (hbb : Bytes bs) (hbl : bs.length ≤ 1000000000) (gp off t pos : Nat) (cs : Array Value) (v0 : Value) (w : World) (h : Rr w0 gr B c bs pos w)
  (hp : w.heap[gp]? = some (.cells cs t (0, 0))) (hoff : cs[off]? = some (.slice none 0 0)) (hne : gp ≠ gr) (h0 : w0.heap.size ≤ gp) (ht : ∀ q, q ∈ 42 :: (Kd.int .u64).E → q ≠ t)
  {σ : Type} (each : σ → Nat → Res (Int × σ)) (s : σ) (I : σ → World → Prop) (D : Nat → Prop) (hI : I s w) (hF : Firm w gr gp I) (hD : ∀ k, D k → k < w.heap.size ∧ k ≠ gp ∧ k ≠ gr) (hD0 : ∀ k, D k → w0.heap.size ≤ k)
  (hE : REach w0 gr B c bs w.heap.size 64 [v0] 42 #[.int .u64 0] (Kd.int .u64) each I D) :
  Calls Tryz.prog 63 #[.iface 82 (.pointer (some ⟨gr, 0, none⟩)), .pointer (some ⟨gp, off, none⟩), .func (.func 64) #[] #[v0]] w
   (RPost (Bd w0 w gr gp t cs.size D) (lst bs each s pos) fun x q w' => Rr w0 gr B c bs q w' ∧ I x.2 w' ∧ Kept w w' (fun k => k = gr ∨ k = gp ∨ D k) ∧ ∃ v, w'.heap[gp]? = some (.cells (cs.setIfInBounds off v) t (0, 0)) ∧ Rsp (Kd.int .u64) 42 w' w.heap.size (fun _ => True) v x.1 w'.heap.size) := by
 have hcp : w.cell? ⟨gp, off, none⟩ = some (.slice none 0 0) := (blk_cell hp off).trans hoff
 have hgr := blk_lt h.blk
 have hgp := blk_lt hp
 have hb : Below w.heap.size w (w.alloc (.cells #[.int .i64 0] 3)) := below_alloc (Below.refl _ _) _
 have HC := Aside0.mk (rinteger_any w0 gr w.heap.size 0 3 c pos 0 B bs #[.int .i64 0] (w.alloc (.cells #[.int .i64 0] 3)) hbb hbl (h.below hb) (heap_alloc_new w _) rfl (by omega) h.bel.size (by omega))
 have hset : cs.setIfInBounds off (.slice none 0 0) = cs := by
  apply Array.ext_getElem?
  intro j
  rw [Array.getElem?_setIfInBounds]
  by_cases hj : off = j
  ·subst hj
   rw [if_pos rfl, if_pos (Array.getElem?_eq_some_iff.1 hoff).1, hoff]
  ·rw [if_neg hj]
 have HSTART : Aside0 (∀ w2 q, Rr w0 gr B c bs q w2 → Kept (w.alloc (.cells #[.int .i64 0] 3)) w2 (fun k => k = gr ∨ k = w.heap.size) → RL w0 w gr gp off t c B bs cs (Kd.int .u64) 42 I D [] s q (.slice none 0 0) w2) := ⟨fun w2 q hr hk => by
  refine ⟨hr, hF s w _ hI ?_, ?_, ?_, Rsp_nil _ _ _ _ _ _⟩
  ·intro k h1 h2 h3
   rw [hk.2 k (Nat.lt_of_lt_of_le h1 hb.size) (by omega), hb.block k h1]
  ·refine (Kept.of_below hb _).then_ hk ?_
   rintro k (e | e)
   ·exact .inl (.inl e)
   ·exact .inr (by omega)
  ·rw [hset]
   exact blk_kept (blk_below hp hb) hk (by omega)⟩
 have HBAD : Aside0 (∀ {w2 : World}, Bd w0 (w.alloc (.cells #[.int .i64 0] 3)) gr w.heap.size 3 1 (fun _ => False) w2 → Bd w0 w gr gp t cs.size D w2) := ⟨fun h2 => Bd.new (Kept.of_below hb _) (blk_below hp hb) rfl h2 (Nat.le_refl _) hne hgp (fun k e => e.elim)⟩
 obtain ⟨R, hR⟩ : ∃ R, lst bs each s pos = R := ⟨_, rfl⟩
 rw [hR]
 obtain ⟨N, hN⟩ : ∃ N, num bs great pos = N := ⟨_, rfl⟩
 have HI : Aside0 (int bs 0 pos = N.bind fun n p => .ok ((n : Int) - 0) p) := ⟨by rw [← hN]; rfl⟩
 have HL : Aside0 (N.bind (fun n p => if bs.length - p < n then .bad bs.length 160 else many each n s p) = R) := ⟨by rw [← hN]; exact hR⟩
 rw [HI.out] at HC
 have HNE := Aside0.mk hne
 have H0 := Aside0.mk h0
 have HFI := Aside0.mk hF
 have HD := Aside0.mk hD
 have HEE := Aside0.mk hE
 have HGR := Aside0.mk hgr
 have HGP := Aside0.mk hgp
 have HT := Aside0.mk ht
 have HB0 := Aside0.mk h.bel.size
 have HOFF := Aside0.mk (Array.getElem?_eq_some_iff.1 hoff).1
 clear hI hF hD hE hgr hgp hset hR hN HI h hp hb ht hoff
 have ha1 := assert_rr ⟨gr, 0, none⟩
 cases N with
 | bad p code =>
  have HX : Aside0 (R = .bad p code) := ⟨HL.out.symm⟩
  go_enter Tryz.func63, Tryz.ntmps63
  go_wp2_with (fail)
  refine HC.out.mono ?_
  rintro en w2 ⟨rfl, hb2⟩
  exact ⟨rfl, RPost.of_bad HX.out (HBAD.out hb2)⟩
 | ok m p =>
  go_enter Tryz.func63, Tryz.ntmps63
  go_wp2_with (fail)
  refine HC.out.mono ?_
  rintro en w2 ⟨rfl, hr2, hk2, hb2⟩
  have HS := Aside0.mk (HSTART.out w2 p hr2 hk2)
  have hple := hr2.le
  have hn2 : w2.cell? ⟨w.heap.size, 0, none⟩ = some (.int .i64 (m : Int)) := by
   rw [blk_cell hb2 0]
   simp
  have hr20 : w2.cell? ⟨gr, 0, none⟩ = some (.slice B bs.length c) := (blk_cell hr2.blk 0).trans rfl
  have hr21 : w2.cell? ⟨gr, 1, none⟩ = some (.int .i64 p) := (blk_cell hr2.blk 1).trans rfl
  have hwr : IntKind.i64.wrap ((bs.length : Int) - (p : Int)) = (bs.length : Int) - p := by rw [IntKind.wrap_i64]; omega
  clear hr2 hk2 hb2
  by_cases hsh : bs.length - p < m
  ·have HX : Aside0 (R = .bad bs.length 160) := ⟨by rw [← HL.out]; simp only [Res.bind]; rw [if_pos hsh]⟩
   have HCS : Aside0 (∀ nq, Calls Tryz.prog 57 #[.pointer (some ⟨gr, 0, none⟩)] (w2.drewN nq) fun e w' => e = .panicked (failed bs.length 160) ∧ w2.drewN nq = w') := ⟨fun nq => rshort_any w0 gr c p B bs _ (HS.out.rr.below (pw_below_drewN (Below.refl _ _) nq))⟩
   have p1 : (bs.length : Int) - (p : Int) < (m : Int) := by omega
   have t1 : decide ((bs.length : Int) - (p : Int) < (m : Int)) = true := by simp only [decide_eq_true_eq]; omega
   clear hsh
   go_wp2_with (fail)
   go_quiet (fail)
   go_wp2_with (fail)
   refine (HCS.out _).mono ?_
   rintro e w' ⟨rfl, rfl⟩
   exact ⟨rfl, RPost.of_bad HX.out (HS.out.bd.below (pw_below_drewN (Below.refl _ _) _))⟩
  ·have HX : Aside0 (many each m s p = R) := ⟨by rw [← HL.out]; simp only [Res.bind]; rw [if_neg hsh]⟩
   have hmb : m ≤ bs.length := by omega
   have p1 : ¬ (bs.length : Int) - (p : Int) < (m : Int) := by omega
   have p2 : (m : Int) ≤ (bs.length : Int) - (p : Int) := by omega
   have t1 : decide ((bs.length : Int) - (p : Int) < (m : Int)) = false := by simp only [decide_eq_false_iff_not]; omega
   clear hsh
   go_wp2_with (fail)
   go_quiet (fail)
   go_wp2_with (fail)
   refine wp_world (p := RL w0 w gr gp off t c B bs cs (Kd.int .u64) 42 I D [] s p (.slice none 0 0)) ?_ ?_
   ·have hd := fun m => pw_below_drewN (Below.refl w2.heap.size w2) m
    have h := HS.out
    exact ⟨h.rr.below (hd _), HFI.out _ _ _ h.inv (fun _ _ _ _ => rfl), h.kept.drewN _, h.blk, (h.row.below (hd _)).mono (fun _ h => h) (Nat.le_refl _)⟩
   clear hr20 hr21 hn2 hwr HS HSTART HC HL hcp p1 p2 t1 ha1
   intro w3 hs3
   have HS3 := Aside0.mk hs3
   clear hs3
   have HXS : Aside0 ((many each (m - 0) s p).bind (fun y p => .ok ([] ++ y.1, y.2) p) = R) := ⟨by rw [Nat.sub_zero, bind_nil]; exact HX.out⟩
   clear HX
   go_loopw [36] (fun a wr => ∃ (i q : Nat) (s' : σ) (xs : List (Int)) (v : Value), a = .int .i64 i ∧ i ≤ m ∧ Aside0 (xs.length = i) ∧ Aside0 ((many each (m - i) s' q).bind (fun y p => .ok (xs ++ y.1, y.2) p) = R) ∧ Aside0 (RL w0 w gr gp off t c B bs cs (Kd.int .u64) 42 I D xs s' q v wr)) (fun a _ => m - (intOf a).toNat)
   case atStart => exact ⟨0, p, s, [], .slice none 0 0, rfl, by omega, ⟨rfl⟩, HXS, HS3⟩
   case round =>
    clear HXS HS3
    obtain ⟨i, q, s', xs, v, rfl, hi, HLN, HRR, HRL⟩ := hrel
    by_cases hlt : i < m
    ·have HU : Aside0 (((each s' q).bind fun x p1 => (many each (m - (i + 1)) x.2 p1).bind fun y p2 => .ok (x.1 :: y.1, y.2) p2).bind (fun y p => .ok (xs ++ y.1, y.2) p) = R) := ⟨by
      have := HRR.out
      rw [show m - i = (m - (i + 1)) + 1 by omega, many] at this
      exact this⟩
     have hroom := HRL.out.room HFI.out (.cells #[.int .u64 0] 42)
     have HCE := Aside0.mk (HEE.out s' q (wr.alloc (.cells #[.int .u64 0] 42)) wr.heap.size hroom.1 hroom.2 (heap_alloc_new wr _) HRL.out.kept.1)
     clear hroom
     obtain ⟨X, hX⟩ : ∃ X, each s' q = X := ⟨_, rfl⟩
     rw [hX] at HU HCE
     clear hX HRR
     cases X with
     | bad q2 code =>
      have HB : Aside0 (R = .bad q2 code) := ⟨HU.out.symm⟩
      go_wp2_with (fail)
      refine HCE.out.mono ?_
      rintro en w4 ⟨rfl, hb4⟩
      exact ⟨rfl, RPost.of_bad HB.out (Bd.new (HRL.out.kept.alloc _) (blk_alloc HRL.out.blk _) (by simp) hb4 HRL.out.kept.1 HNE.out HGP.out (fun k e => ⟨.inl e, (HD.out k e).2.1⟩))⟩
     | ok xq q2 =>
      obtain ⟨x, s2⟩ := xq
      have HV : Aside0 ((many each (m - (i + 1)) s2 q2).bind (fun y p => .ok ((xs ++ [x]) ++ y.1, y.2) p) = R) := ⟨by
       have := HU.out
       rw [← this]
       simp only [Res.bind]
       cases many each (m - (i + 1)) s2 q2 <;> simp⟩
      go_wp2_with (fail)
      refine HCE.out.mono ?_
      rintro en w4 ⟨rfl, hr4, hi4, hk4, cx, hb4, hm4⟩
      have HM := Aside0.mk (HRL.out.mid HGR.out HGP.out HNE.out HD.out hr4 hi4 hk4 hb4 hm4)
      obtain rfl := one_cell hm4
      obtain ⟨Av, cv, rfl⟩ := Rsp_slice HM.out.row
      have hcx0 := (blk_cell HM.out.new 0).trans (show _ = some (.int .u64 x) from rfl)
      have hcg : w4.cell? ⟨gp, off, none⟩ = some (.slice Av xs.length cv) := (blk_cell HM.out.blk off).trans (by have := HOFF.out; simp [this])
      have hfg := blk_frozen HM.out.blk off
      have hca : (w4.alloc (.cells #[.int .u64 x] 42)).cell? ⟨gp, off, none⟩ = some (.slice Av xs.length cv) := (blk_cell (blk_alloc HM.out.blk _) off).trans (by have := HOFF.out; simp [this])
      clear hr4 hi4 hk4 hb4 hm4 HU HCE
      have hlx : xs.length < m := by have := HLN.out; omega
      go_wp2_with (fail)
      go_region_law (first | (refine Rsp_append_step (Kd.int .u64) (w0 := w4.drew) (W := w4.drew) w.heap.size (by rfl) (.tmp 43) (.tmp 45) 64 42 (.int .u64 0) 8 (by rfl) Tryz.underlying64 info42_ rfl (by decide) (by decide) (.slice Av xs.length cv) xs x [.int .u64 x] (fun _ => True) wr.heap.size (by rfl) (by rfl) (Kd.M_below HM.out.el (below_drew (Below.refl _ _))) (fun k hk => ⟨trivial, fun e => by have := (HM.out.own k e.symm).2; omega⟩) (fun _ _ => trivial) (HM.out.row.below (below_drew (Below.refl _ _))) (Below.refl _ _) HM.out.kept.1 (by omega) ?_ (Nat.le_of_lt (blk_lt HM.out.new)); intro v1 w1 ho hb hg hat; obtain ⟨A1, c1, rfl⟩ := Rsp_slice ho; have hfz := blk_frozen (blk_grown (w := w4.drew) HM.out.blk hg (fun e => by have := (HM.out.own gp e.symm).1; have := HGP.out; omega)) off; have hcg1 := cell_grown hg hcg (fun e => by have := (HM.out.own gp e.symm).1; have := HGP.out; omega)))
      all_goals
       have HNX := Aside0.mk (HM.out.next HGR.out HGP.out HNE.out H0.out HFI.out (below_drew (Below.refl _ _)) hg ho HT.out)
       rw [List.length_append, List.length_singleton] at HNX
       clear ho hb hg hat hcx0 hcg hca hfg hfz hcg1
       go_wp2_with (fail)
       go_roundw
       case rel => exact ⟨i + 1, q2, s2, xs ++ [x], _, by go_num, by omega, ⟨by rw [List.length_append, HLN.out]; rfl⟩, HV, HNX⟩
       case measure => simp [intOf]; omega
    ·go_wp2_with (fail)
     go_end0
     have hR := HRR.out
     rw [show m - i = 0 by omega] at hR
     have h := HRL.out
     refine RPost.of_ok hR.symm ⟨h.rr, h.inv, h.kept, v, h.blk, ?_⟩
     simpa using h.row

theorem info25_ : (Tryz.prog.info? 25).map (fun i => (i.zero, i.size, i.bytes)) = some (some (.slice none 0 0), 1, 24) := by kernel_rfl
set_option maxHeartbeats 8000000 in
set_option maxRecDepth 100000 in
theorem rlist_75_76 (w0 : World) (gr : Nat) (B : Option Addr) (c : Nat) (bs : List Int) (hbb : Bytes bs) (hbl : bs.length ≤ 1000000000) (gp off t pos : Nat) (cs : Array Value) (v0 v1 : Value) (w : World) (h : Rr w0 gr B c bs pos w)
  (hp : w.heap[gp]? = some (.cells cs t (0, 0))) (hoff : cs[off]? = some (.slice none 0 0)) (hne : gp ≠ gr) (h0 : w0.heap.size ≤ gp) (ht : ∀ q, q ∈ 25 :: (Kd.slice 3 (Kd.int .i64)).E → q ≠ t)
  {σ : Type} (each : σ → Nat → Res (List Int × σ)) (s : σ) (I : σ → World → Prop) (D : Nat → Prop) (hI : I s w) (hF : Firm w gr gp I) (hD : ∀ k, D k → k < w.heap.size ∧ k ≠ gp ∧ k ≠ gr) (hD0 : ∀ k, D k → w0.heap.size ≤ k)
  (hE : REach w0 gr B c bs w.heap.size 68 [v0, v1] 25 #[.slice none 0 0] (Kd.slice 3 (Kd.int .i64)) each I D) :
  Calls Tryz.prog 67 #[.iface 82 (.pointer (some ⟨gr, 0, none⟩)), .pointer (some ⟨gp, off, none⟩), .func (.func 68) #[] #[v0, v1]] w
   (RPost (Bd w0 w gr gp t cs.size D) (lst bs each s pos) fun x q w' => Rr w0 gr B c bs q w' ∧ I x.2 w' ∧ Kept w w' (fun k => k = gr ∨ k = gp ∨ D k) ∧ ∃ v, w'.heap[gp]? = some (.cells (cs.setIfInBounds off v) t (0, 0)) ∧ Rsp (Kd.slice 3 (Kd.int .i64)) 25 w' w.heap.size (fun _ => True) v x.1 w'.heap.size) := by
 have hcp : w.cell? ⟨gp, off, none⟩ = some (.slice none 0 0) := (blk_cell hp off).trans hoff
 have hgr := blk_lt h.blk
 have hgp := blk_lt hp
 have hb : Below w.heap.size w (w.alloc (.cells #[.int .i64 0] 3)) := below_alloc (Below.refl _ _) _
 have HC := Aside0.mk (rinteger_any w0 gr w.heap.size 0 3 c pos 0 B bs #[.int .i64 0] (w.alloc (.cells #[.int .i64 0] 3)) hbb hbl (h.below hb) (heap_alloc_new w _) rfl (by omega) h.bel.size (by omega))
 have hset : cs.setIfInBounds off (.slice none 0 0) = cs := by
  apply Array.ext_getElem?
  intro j
  rw [Array.getElem?_setIfInBounds]
  by_cases hj : off = j
  ·subst hj
   rw [if_pos rfl, if_pos (Array.getElem?_eq_some_iff.1 hoff).1, hoff]
  ·rw [if_neg hj]
 have HSTART : Aside0 (∀ w2 q, Rr w0 gr B c bs q w2 → Kept (w.alloc (.cells #[.int .i64 0] 3)) w2 (fun k => k = gr ∨ k = w.heap.size) → RL w0 w gr gp off t c B bs cs (Kd.slice 3 (Kd.int .i64)) 25 I D [] s q (.slice none 0 0) w2) := ⟨fun w2 q hr hk => by
  refine ⟨hr, hF s w _ hI ?_, ?_, ?_, Rsp_nil _ _ _ _ _ _⟩
  ·intro k h1 h2 h3
   rw [hk.2 k (Nat.lt_of_lt_of_le h1 hb.size) (by omega), hb.block k h1]
  ·refine (Kept.of_below hb _).then_ hk ?_
   rintro k (e | e)
   ·exact .inl (.inl e)
   ·exact .inr (by omega)
  ·rw [hset]
   exact blk_kept (blk_below hp hb) hk (by omega)⟩
 have HBAD : Aside0 (∀ {w2 : World}, Bd w0 (w.alloc (.cells #[.int .i64 0] 3)) gr w.heap.size 3 1 (fun _ => False) w2 → Bd w0 w gr gp t cs.size D w2) := ⟨fun h2 => Bd.new (Kept.of_below hb _) (blk_below hp hb) rfl h2 (Nat.le_refl _) hne hgp (fun k e => e.elim)⟩
 obtain ⟨R, hR⟩ : ∃ R, lst bs each s pos = R := ⟨_, rfl⟩
 rw [hR]
 obtain ⟨N, hN⟩ : ∃ N, num bs great pos = N := ⟨_, rfl⟩
 have HI : Aside0 (int bs 0 pos = N.bind fun n p => .ok ((n : Int) - 0) p) := ⟨by rw [← hN]; rfl⟩
 have HL : Aside0 (N.bind (fun n p => if bs.length - p < n then .bad bs.length 160 else many each n s p) = R) := ⟨by rw [← hN]; exact hR⟩
 rw [HI.out] at HC
 have HNE := Aside0.mk hne
 have H0 := Aside0.mk h0
 have HFI := Aside0.mk hF
 have HD := Aside0.mk hD
 have HEE := Aside0.mk hE
 have HGR := Aside0.mk hgr
 have HGP := Aside0.mk hgp
 have HT := Aside0.mk ht
 have HB0 := Aside0.mk h.bel.size
 have HOFF := Aside0.mk (Array.getElem?_eq_some_iff.1 hoff).1
 clear hI hF hD hE hgr hgp hset hR hN HI h hp hb ht hoff
 have ha1 := assert_rr ⟨gr, 0, none⟩
 cases N with
 | bad p code =>
  have HX : Aside0 (R = .bad p code) := ⟨HL.out.symm⟩
  go_enter Tryz.func67, Tryz.ntmps67
  go_wp2_with (fail)
  refine HC.out.mono ?_
  rintro en w2 ⟨rfl, hb2⟩
  exact ⟨rfl, RPost.of_bad HX.out (HBAD.out hb2)⟩
 | ok m p =>
  go_enter Tryz.func67, Tryz.ntmps67
  go_wp2_with (fail)
  refine HC.out.mono ?_
  rintro en w2 ⟨rfl, hr2, hk2, hb2⟩
  have HS := Aside0.mk (HSTART.out w2 p hr2 hk2)
  have hple := hr2.le
  have hn2 : w2.cell? ⟨w.heap.size, 0, none⟩ = some (.int .i64 (m : Int)) := by
   rw [blk_cell hb2 0]
   simp
  have hr20 : w2.cell? ⟨gr, 0, none⟩ = some (.slice B bs.length c) := (blk_cell hr2.blk 0).trans rfl
  have hr21 : w2.cell? ⟨gr, 1, none⟩ = some (.int .i64 p) := (blk_cell hr2.blk 1).trans rfl
  have hwr : IntKind.i64.wrap ((bs.length : Int) - (p : Int)) = (bs.length : Int) - p := by rw [IntKind.wrap_i64]; omega
  clear hr2 hk2 hb2
  by_cases hsh : bs.length - p < m
  ·have HX : Aside0 (R = .bad bs.length 160) := ⟨by rw [← HL.out]; simp only [Res.bind]; rw [if_pos hsh]⟩
   have HCS : Aside0 (∀ nq, Calls Tryz.prog 57 #[.pointer (some ⟨gr, 0, none⟩)] (w2.drewN nq) fun e w' => e = .panicked (failed bs.length 160) ∧ w2.drewN nq = w') := ⟨fun nq => rshort_any w0 gr c p B bs _ (HS.out.rr.below (pw_below_drewN (Below.refl _ _) nq))⟩
   have p1 : (bs.length : Int) - (p : Int) < (m : Int) := by omega
   have t1 : decide ((bs.length : Int) - (p : Int) < (m : Int)) = true := by simp only [decide_eq_true_eq]; omega
   clear hsh
   go_wp2_with (fail)
   go_quiet (fail)
   go_wp2_with (fail)
   refine (HCS.out _).mono ?_
   rintro e w' ⟨rfl, rfl⟩
   exact ⟨rfl, RPost.of_bad HX.out (HS.out.bd.below (pw_below_drewN (Below.refl _ _) _))⟩
  ·have HX : Aside0 (many each m s p = R) := ⟨by rw [← HL.out]; simp only [Res.bind]; rw [if_neg hsh]⟩
   have hmb : m ≤ bs.length := by omega
   have p1 : ¬ (bs.length : Int) - (p : Int) < (m : Int) := by omega
   have p2 : (m : Int) ≤ (bs.length : Int) - (p : Int) := by omega
   have t1 : decide ((bs.length : Int) - (p : Int) < (m : Int)) = false := by simp only [decide_eq_false_iff_not]; omega
   clear hsh
   go_wp2_with (fail)
   go_quiet (fail)
   go_wp2_with (fail)
   refine wp_world (p := RL w0 w gr gp off t c B bs cs (Kd.slice 3 (Kd.int .i64)) 25 I D [] s p (.slice none 0 0)) ?_ ?_
   ·have hd := fun m => pw_below_drewN (Below.refl w2.heap.size w2) m
    have h := HS.out
    exact ⟨h.rr.below (hd _), HFI.out _ _ _ h.inv (fun _ _ _ _ => rfl), h.kept.drewN _, h.blk, (h.row.below (hd _)).mono (fun _ h => h) (Nat.le_refl _)⟩
   clear hr20 hr21 hn2 hwr HS HSTART HC HL hcp p1 p2 t1 ha1
   intro w3 hs3
   have HS3 := Aside0.mk hs3
   clear hs3
   have HXS : Aside0 ((many each (m - 0) s p).bind (fun y p => .ok ([] ++ y.1, y.2) p) = R) := ⟨by rw [Nat.sub_zero, bind_nil]; exact HX.out⟩
   clear HX
   go_loopw [36] (fun a wr => ∃ (i q : Nat) (s' : σ) (xs : List (List Int)) (v : Value), a = .int .i64 i ∧ i ≤ m ∧ Aside0 (xs.length = i) ∧ Aside0 ((many each (m - i) s' q).bind (fun y p => .ok (xs ++ y.1, y.2) p) = R) ∧ Aside0 (RL w0 w gr gp off t c B bs cs (Kd.slice 3 (Kd.int .i64)) 25 I D xs s' q v wr)) (fun a _ => m - (intOf a).toNat)
   case atStart => exact ⟨0, p, s, [], .slice none 0 0, rfl, by omega, ⟨rfl⟩, HXS, HS3⟩
   case round =>
    clear HXS HS3
    obtain ⟨i, q, s', xs, v, rfl, hi, HLN, HRR, HRL⟩ := hrel
    by_cases hlt : i < m
    ·have HU : Aside0 (((each s' q).bind fun x p1 => (many each (m - (i + 1)) x.2 p1).bind fun y p2 => .ok (x.1 :: y.1, y.2) p2).bind (fun y p => .ok (xs ++ y.1, y.2) p) = R) := ⟨by
      have := HRR.out
      rw [show m - i = (m - (i + 1)) + 1 by omega, many] at this
      exact this⟩
     have hroom := HRL.out.room HFI.out (.cells #[.slice none 0 0] 25)
     have HCE := Aside0.mk (HEE.out s' q (wr.alloc (.cells #[.slice none 0 0] 25)) wr.heap.size hroom.1 hroom.2 (heap_alloc_new wr _) HRL.out.kept.1)
     clear hroom
     obtain ⟨X, hX⟩ : ∃ X, each s' q = X := ⟨_, rfl⟩
     rw [hX] at HU HCE
     clear hX HRR
     cases X with
     | bad q2 code =>
      have HB : Aside0 (R = .bad q2 code) := ⟨HU.out.symm⟩
      go_wp2_with (fail)
      refine HCE.out.mono ?_
      rintro en w4 ⟨rfl, hb4⟩
      exact ⟨rfl, RPost.of_bad HB.out (Bd.new (HRL.out.kept.alloc _) (blk_alloc HRL.out.blk _) (by simp) hb4 HRL.out.kept.1 HNE.out HGP.out (fun k e => ⟨.inl e, (HD.out k e).2.1⟩))⟩
     | ok xq q2 =>
      obtain ⟨x, s2⟩ := xq
      have HV : Aside0 ((many each (m - (i + 1)) s2 q2).bind (fun y p => .ok ((xs ++ [x]) ++ y.1, y.2) p) = R) := ⟨by
       have := HU.out
       rw [← this]
       simp only [Res.bind]
       cases many each (m - (i + 1)) s2 q2 <;> simp⟩
      go_wp2_with (fail)
      refine HCE.out.mono ?_
      rintro en w4 ⟨rfl, hr4, hi4, hk4, cx, hb4, hm4⟩
      have HM := Aside0.mk (HRL.out.mid HGR.out HGP.out HNE.out HD.out hr4 hi4 hk4 hb4 hm4)
      have hmx := hm4
      obtain ⟨u, hu, hru⟩ := hmx
      obtain ⟨Au, cu, rfl⟩ := Kd.R_slice hru
      obtain rfl := one_cell hu
      clear hru hu
      obtain ⟨Av, cv, rfl⟩ := Rsp_slice HM.out.row
      have hcx0 := (blk_cell HM.out.new 0).trans (show _ = some (.slice Au x.length cu) from rfl)
      have hcg : w4.cell? ⟨gp, off, none⟩ = some (.slice Av xs.length cv) := (blk_cell HM.out.blk off).trans (by have := HOFF.out; simp [this])
      have hfg := blk_frozen HM.out.blk off
      have hca : (w4.alloc (.cells #[.slice Au x.length cu] 25)).cell? ⟨gp, off, none⟩ = some (.slice Av xs.length cv) := (blk_cell (blk_alloc HM.out.blk _) off).trans (by have := HOFF.out; simp [this])
      clear hr4 hi4 hk4 hb4 hm4 HU HCE
      have hlx : xs.length < m := by have := HLN.out; omega
      go_wp2_with (fail)
      go_region_law (first | (refine Rsp_append_step (Kd.slice 3 (Kd.int .i64)) (w0 := w4.drew) (W := w4.drew) w.heap.size (by rfl) (.tmp 43) (.tmp 45) 26 25 (.slice none 0 0) 24 (by rfl) Tryz.underlying26 info25_ rfl (by decide) (by decide) (.slice Av xs.length cv) xs x [.slice Au x.length cu] (fun _ => True) wr.heap.size (by rfl) (by rfl) (Kd.M_below HM.out.el (below_drew (Below.refl _ _))) (fun k hk => ⟨trivial, fun e => by have := (HM.out.own k e.symm).2; omega⟩) (fun _ _ => trivial) (HM.out.row.below (below_drew (Below.refl _ _))) (Below.refl _ _) HM.out.kept.1 (by omega) ?_ (Nat.le_of_lt (blk_lt HM.out.new)); intro v1 w1 ho hb hg hat; obtain ⟨A1, c1, rfl⟩ := Rsp_slice ho; have hfz := blk_frozen (blk_grown (w := w4.drew) HM.out.blk hg (fun e => by have := (HM.out.own gp e.symm).1; have := HGP.out; omega)) off; have hcg1 := cell_grown hg hcg (fun e => by have := (HM.out.own gp e.symm).1; have := HGP.out; omega)))
      all_goals
       have HNX := Aside0.mk (HM.out.next HGR.out HGP.out HNE.out H0.out HFI.out (below_drew (Below.refl _ _)) hg ho HT.out)
       rw [List.length_append, List.length_singleton] at HNX
       clear ho hb hg hat hcx0 hcg hca hfg hfz hcg1
       go_wp2_with (fail)
       go_roundw
       case rel => exact ⟨i + 1, q2, s2, xs ++ [x], _, by go_num, by omega, ⟨by rw [List.length_append, HLN.out]; rfl⟩, HV, HNX⟩
       case measure => simp [intOf]; omega
    ·go_wp2_with (fail)
     go_end0
     have hR := HRR.out
     rw [show m - i = 0 by omega] at hR
     have h := HRL.out
     refine RPost.of_ok hR.symm ⟨h.rr, h.inv, h.kept, v, h.blk, ?_⟩
     simpa using h.row

theorem info26_ : (Tryz.prog.info? 26).map (fun i => (i.zero, i.size, i.bytes)) = some (some (.slice none 0 0), 1, 24) := by kernel_rfl
set_option maxHeartbeats 8000000 in
set_option maxRecDepth 100000 in
theorem rlist_73_74 (w0 : World) (gr : Nat) (B : Option Addr) (c : Nat) (bs : List Int) (hbb : Bytes bs) (hbl : bs.length ≤ 1000000000) (gp off t pos : Nat) (cs : Array Value) (v0 v1 : Value) (w : World) (h : Rr w0 gr B c bs pos w)
  (hp : w.heap[gp]? = some (.cells cs t (0, 0))) (hoff : cs[off]? = some (.slice none 0 0)) (hne : gp ≠ gr) (h0 : w0.heap.size ≤ gp) (ht : ∀ q, q ∈ 26 :: (fsl 25 (Kd.slice 3 (Kd.int .i64))).E → q ≠ t)
  {σ : Type} (each : σ → Nat → Res (List (List Int) × σ)) (s : σ) (I : σ → World → Prop) (D : Nat → Prop) (hI : I s w) (hF : Firm w gr gp I) (hD : ∀ k, D k → k < w.heap.size ∧ k ≠ gp ∧ k ≠ gr) (hD0 : ∀ k, D k → w0.heap.size ≤ k)
  (hE : REach w0 gr B c bs w.heap.size 66 [v0, v1] 26 #[.slice none 0 0] (fsl 25 (Kd.slice 3 (Kd.int .i64))) each I D) :
  Calls Tryz.prog 65 #[.iface 82 (.pointer (some ⟨gr, 0, none⟩)), .pointer (some ⟨gp, off, none⟩), .func (.func 66) #[] #[v0, v1]] w
   (RPost (Bd w0 w gr gp t cs.size D) (lst bs each s pos) fun x q w' => Rr w0 gr B c bs q w' ∧ I x.2 w' ∧ Kept w w' (fun k => k = gr ∨ k = gp ∨ D k) ∧ ∃ v, w'.heap[gp]? = some (.cells (cs.setIfInBounds off v) t (0, 0)) ∧ Rsp (fsl 25 (Kd.slice 3 (Kd.int .i64))) 26 w' w.heap.size (fun _ => True) v x.1 w'.heap.size) := by
 have hcp : w.cell? ⟨gp, off, none⟩ = some (.slice none 0 0) := (blk_cell hp off).trans hoff
 have hgr := blk_lt h.blk
 have hgp := blk_lt hp
 have hb : Below w.heap.size w (w.alloc (.cells #[.int .i64 0] 3)) := below_alloc (Below.refl _ _) _
 have HC := Aside0.mk (rinteger_any w0 gr w.heap.size 0 3 c pos 0 B bs #[.int .i64 0] (w.alloc (.cells #[.int .i64 0] 3)) hbb hbl (h.below hb) (heap_alloc_new w _) rfl (by omega) h.bel.size (by omega))
 have hset : cs.setIfInBounds off (.slice none 0 0) = cs := by
  apply Array.ext_getElem?
  intro j
  rw [Array.getElem?_setIfInBounds]
  by_cases hj : off = j
  ·subst hj
   rw [if_pos rfl, if_pos (Array.getElem?_eq_some_iff.1 hoff).1, hoff]
  ·rw [if_neg hj]
 have HSTART : Aside0 (∀ w2 q, Rr w0 gr B c bs q w2 → Kept (w.alloc (.cells #[.int .i64 0] 3)) w2 (fun k => k = gr ∨ k = w.heap.size) → RL w0 w gr gp off t c B bs cs (fsl 25 (Kd.slice 3 (Kd.int .i64))) 26 I D [] s q (.slice none 0 0) w2) := ⟨fun w2 q hr hk => by
  refine ⟨hr, hF s w _ hI ?_, ?_, ?_, Rsp_nil _ _ _ _ _ _⟩
  ·intro k h1 h2 h3
   rw [hk.2 k (Nat.lt_of_lt_of_le h1 hb.size) (by omega), hb.block k h1]
  ·refine (Kept.of_below hb _).then_ hk ?_
   rintro k (e | e)
   ·exact .inl (.inl e)
   ·exact .inr (by omega)
  ·rw [hset]
   exact blk_kept (blk_below hp hb) hk (by omega)⟩
 have HBAD : Aside0 (∀ {w2 : World}, Bd w0 (w.alloc (.cells #[.int .i64 0] 3)) gr w.heap.size 3 1 (fun _ => False) w2 → Bd w0 w gr gp t cs.size D w2) := ⟨fun h2 => Bd.new (Kept.of_below hb _) (blk_below hp hb) rfl h2 (Nat.le_refl _) hne hgp (fun k e => e.elim)⟩
 obtain ⟨R, hR⟩ : ∃ R, lst bs each s pos = R := ⟨_, rfl⟩
 rw [hR]
 obtain ⟨N, hN⟩ : ∃ N, num bs great pos = N := ⟨_, rfl⟩
 have HI : Aside0 (int bs 0 pos = N.bind fun n p => .ok ((n : Int) - 0) p) := ⟨by rw [← hN]; rfl⟩
 have HL : Aside0 (N.bind (fun n p => if bs.length - p < n then .bad bs.length 160 else many each n s p) = R) := ⟨by rw [← hN]; exact hR⟩
 rw [HI.out] at HC
 have HNE := Aside0.mk hne
 have H0 := Aside0.mk h0
 have HFI := Aside0.mk hF
 have HD := Aside0.mk hD
 have HEE := Aside0.mk hE
 have HGR := Aside0.mk hgr
 have HGP := Aside0.mk hgp
 have HT := Aside0.mk ht
 have HB0 := Aside0.mk h.bel.size
 have HOFF := Aside0.mk (Array.getElem?_eq_some_iff.1 hoff).1
 clear hI hF hD hE hgr hgp hset hR hN HI h hp hb ht hoff
 have ha1 := assert_rr ⟨gr, 0, none⟩
 cases N with
 | bad p code =>
  have HX : Aside0 (R = .bad p code) := ⟨HL.out.symm⟩
  go_enter Tryz.func65, Tryz.ntmps65
  go_wp2_with (fail)
  refine HC.out.mono ?_
  rintro en w2 ⟨rfl, hb2⟩
  exact ⟨rfl, RPost.of_bad HX.out (HBAD.out hb2)⟩
 | ok m p =>
  go_enter Tryz.func65, Tryz.ntmps65
  go_wp2_with (fail)
  refine HC.out.mono ?_
  rintro en w2 ⟨rfl, hr2, hk2, hb2⟩
  have HS := Aside0.mk (HSTART.out w2 p hr2 hk2)
  have hple := hr2.le
  have hn2 : w2.cell? ⟨w.heap.size, 0, none⟩ = some (.int .i64 (m : Int)) := by
   rw [blk_cell hb2 0]
   simp
  have hr20 : w2.cell? ⟨gr, 0, none⟩ = some (.slice B bs.length c) := (blk_cell hr2.blk 0).trans rfl
  have hr21 : w2.cell? ⟨gr, 1, none⟩ = some (.int .i64 p) := (blk_cell hr2.blk 1).trans rfl
  have hwr : IntKind.i64.wrap ((bs.length : Int) - (p : Int)) = (bs.length : Int) - p := by rw [IntKind.wrap_i64]; omega
  clear hr2 hk2 hb2
  by_cases hsh : bs.length - p < m
  ·have HX : Aside0 (R = .bad bs.length 160) := ⟨by rw [← HL.out]; simp only [Res.bind]; rw [if_pos hsh]⟩
   have HCS : Aside0 (∀ nq, Calls Tryz.prog 57 #[.pointer (some ⟨gr, 0, none⟩)] (w2.drewN nq) fun e w' => e = .panicked (failed bs.length 160) ∧ w2.drewN nq = w') := ⟨fun nq => rshort_any w0 gr c p B bs _ (HS.out.rr.below (pw_below_drewN (Below.refl _ _) nq))⟩
   have p1 : (bs.length : Int) - (p : Int) < (m : Int) := by omega
   have t1 : decide ((bs.length : Int) - (p : Int) < (m : Int)) = true := by simp only [decide_eq_true_eq]; omega
   clear hsh
   go_wp2_with (fail)
   go_quiet (fail)
   go_wp2_with (fail)
   refine (HCS.out _).mono ?_
   rintro e w' ⟨rfl, rfl⟩
   exact ⟨rfl, RPost.of_bad HX.out (HS.out.bd.below (pw_below_drewN (Below.refl _ _) _))⟩
  ·have HX : Aside0 (many each m s p = R) := ⟨by rw [← HL.out]; simp only [Res.bind]; rw [if_neg hsh]⟩
   have hmb : m ≤ bs.length := by omega
   have p1 : ¬ (bs.length : Int) - (p : Int) < (m : Int) := by omega
   have p2 : (m : Int) ≤ (bs.length : Int) - (p : Int) := by omega
   have t1 : decide ((bs.length : Int) - (p : Int) < (m : Int)) = false := by simp only [decide_eq_false_iff_not]; omega
   clear hsh
   go_wp2_with (fail)
   go_quiet (fail)
   go_wp2_with (fail)
   refine wp_world (p := RL w0 w gr gp off t c B bs cs (fsl 25 (Kd.slice 3 (Kd.int .i64))) 26 I D [] s p (.slice none 0 0)) ?_ ?_
   ·have hd := fun m => pw_below_drewN (Below.refl w2.heap.size w2) m
    have h := HS.out
    exact ⟨h.rr.below (hd _), HFI.out _ _ _ h.inv (fun _ _ _ _ => rfl), h.kept.drewN _, h.blk, (h.row.below (hd _)).mono (fun _ h => h) (Nat.le_refl _)⟩
   clear hr20 hr21 hn2 hwr HS HSTART HC HL hcp p1 p2 t1 ha1
   intro w3 hs3
   have HS3 := Aside0.mk hs3
   clear hs3
   have HXS : Aside0 ((many each (m - 0) s p).bind (fun y p => .ok ([] ++ y.1, y.2) p) = R) := ⟨by rw [Nat.sub_zero, bind_nil]; exact HX.out⟩
   clear HX
   go_loopw [36] (fun a wr => ∃ (i q : Nat) (s' : σ) (xs : List (List (List Int))) (v : Value), a = .int .i64 i ∧ i ≤ m ∧ Aside0 (xs.length = i) ∧ Aside0 ((many each (m - i) s' q).bind (fun y p => .ok (xs ++ y.1, y.2) p) = R) ∧ Aside0 (RL w0 w gr gp off t c B bs cs (fsl 25 (Kd.slice 3 (Kd.int .i64))) 26 I D xs s' q v wr)) (fun a _ => m - (intOf a).toNat)
   case atStart => exact ⟨0, p, s, [], .slice none 0 0, rfl, by omega, ⟨rfl⟩, HXS, HS3⟩
   case round =>
    clear HXS HS3
    obtain ⟨i, q, s', xs, v, rfl, hi, HLN, HRR, HRL⟩ := hrel
    by_cases hlt : i < m
    ·have HU : Aside0 (((each s' q).bind fun x p1 => (many each (m - (i + 1)) x.2 p1).bind fun y p2 => .ok (x.1 :: y.1, y.2) p2).bind (fun y p => .ok (xs ++ y.1, y.2) p) = R) := ⟨by
      have := HRR.out
      rw [show m - i = (m - (i + 1)) + 1 by omega, many] at this
      exact this⟩
     have hroom := HRL.out.room HFI.out (.cells #[.slice none 0 0] 26)
     have HCE := Aside0.mk (HEE.out s' q (wr.alloc (.cells #[.slice none 0 0] 26)) wr.heap.size hroom.1 hroom.2 (heap_alloc_new wr _) HRL.out.kept.1)
     clear hroom
     obtain ⟨X, hX⟩ : ∃ X, each s' q = X := ⟨_, rfl⟩
     rw [hX] at HU HCE
     clear hX HRR
     cases X with
     | bad q2 code =>
      have HB : Aside0 (R = .bad q2 code) := ⟨HU.out.symm⟩
      go_wp2_with (fail)
      refine HCE.out.mono ?_
      rintro en w4 ⟨rfl, hb4⟩
      exact ⟨rfl, RPost.of_bad HB.out (Bd.new (HRL.out.kept.alloc _) (blk_alloc HRL.out.blk _) (by simp) hb4 HRL.out.kept.1 HNE.out HGP.out (fun k e => ⟨.inl e, (HD.out k e).2.1⟩))⟩
     | ok xq q2 =>
      obtain ⟨x, s2⟩ := xq
      have HV : Aside0 ((many each (m - (i + 1)) s2 q2).bind (fun y p => .ok ((xs ++ [x]) ++ y.1, y.2) p) = R) := ⟨by
       have := HU.out
       rw [← this]
       simp only [Res.bind]
       cases many each (m - (i + 1)) s2 q2 <;> simp⟩
      go_wp2_with (fail)
      refine HCE.out.mono ?_
      rintro en w4 ⟨rfl, hr4, hi4, hk4, cx, hb4, hm4⟩
      have HM := Aside0.mk (HRL.out.mid HGR.out HGP.out HNE.out HD.out hr4 hi4 hk4 hb4 hm4)
      have hmx := hm4
      obtain ⟨u, _, hu, hru⟩ := hmx
      obtain ⟨Au, cu, rfl⟩ := Rsp_slice hru
      obtain rfl := one_cell hu
      clear hru hu
      obtain ⟨Av, cv, rfl⟩ := Rsp_slice HM.out.row
      have hcx0 := (blk_cell HM.out.new 0).trans (show _ = some (.slice Au x.length cu) from rfl)
      have hcg : w4.cell? ⟨gp, off, none⟩ = some (.slice Av xs.length cv) := (blk_cell HM.out.blk off).trans (by have := HOFF.out; simp [this])
      have hfg := blk_frozen HM.out.blk off
      have hca : (w4.alloc (.cells #[.slice Au x.length cu] 26)).cell? ⟨gp, off, none⟩ = some (.slice Av xs.length cv) := (blk_cell (blk_alloc HM.out.blk _) off).trans (by have := HOFF.out; simp [this])
      clear hr4 hi4 hk4 hb4 hm4 HU HCE
      have hlx : xs.length < m := by have := HLN.out; omega
      go_wp2_with (fail)
      go_region_law (first | (refine Rsp_append_step (fsl 25 (Kd.slice 3 (Kd.int .i64))) (w0 := w4.drew) (W := w4.drew) w.heap.size (by rfl) (.tmp 43) (.tmp 45) 34 26 (.slice none 0 0) 24 (by rfl) Tryz.underlying34 info26_ rfl (by decide) (by decide) (.slice Av xs.length cv) xs x [.slice Au x.length cu] (fun _ => True) wr.heap.size (by rfl) (by rfl) (Kd.M_below HM.out.el (below_drew (Below.refl _ _))) (fun k hk => ⟨trivial, fun e => by have := (HM.out.own k e.symm).2; omega⟩) (fun _ _ => trivial) (HM.out.row.below (below_drew (Below.refl _ _))) (Below.refl _ _) HM.out.kept.1 (by omega) ?_ (Nat.le_of_lt (blk_lt HM.out.new)); intro v1 w1 ho hb hg hat; obtain ⟨A1, c1, rfl⟩ := Rsp_slice ho; have hfz := blk_frozen (blk_grown (w := w4.drew) HM.out.blk hg (fun e => by have := (HM.out.own gp e.symm).1; have := HGP.out; omega)) off; have hcg1 := cell_grown hg hcg (fun e => by have := (HM.out.own gp e.symm).1; have := HGP.out; omega)))
      all_goals
       have HNX := Aside0.mk (HM.out.next HGR.out HGP.out HNE.out H0.out HFI.out (below_drew (Below.refl _ _)) hg ho HT.out)
       rw [List.length_append, List.length_singleton] at HNX
       clear ho hb hg hat hcx0 hcg hca hfg hfz hcg1
       go_wp2_with (fail)
       go_roundw
       case rel => exact ⟨i + 1, q2, s2, xs ++ [x], _, by go_num, by omega, ⟨by rw [List.length_append, HLN.out]; rfl⟩, HV, HNX⟩
       case measure => simp [intOf]; omega
    ·go_wp2_with (fail)
     go_end0
     have hR := HRR.out
     rw [show m - i = 0 by omega] at hR
     have h := HRL.out
     refine RPost.of_ok hR.symm ⟨h.rr, h.inv, h.kept, v, h.blk, ?_⟩
     simpa using h.row

theorem info66_ : (Tryz.prog.info? 66).map (fun i => (i.zero, i.size, i.bytes)) = some (some (.agg #[.int .u64 0, .int .i64 0, .int .i64 0, .slice none 0 0, .slice none 0 0]), 5, 72) := by kernel_rfl
set_option maxHeartbeats 8000000 in
set_option maxRecDepth 100000 in
theorem rlist_68_69 (w0 : World) (gr : Nat) (B : Option Addr) (c : Nat) (bs : List Int) (hbb : Bytes bs) (hbl : bs.length ≤ 1000000000) (gp off t pos : Nat) (cs : Array Value) (v0 v1 v2 : Value) (w : World) (h : Rr w0 gr B c bs pos w)
  (hp : w.heap[gp]? = some (.cells cs t (0, 0))) (hoff : cs[off]? = some (.slice none 0 0)) (hne : gp ≠ gr) (h0 : w0.heap.size ≤ gp) (ht : ∀ q, q ∈ 66 :: (k66).E → q ≠ t)
  {σ : Type} (each : σ → Nat → Res (S66 × σ)) (s : σ) (I : σ → World → Prop) (D : Nat → Prop) (hI : I s w) (hF : Firm w gr gp I) (hD : ∀ k, D k → k < w.heap.size ∧ k ≠ gp ∧ k ≠ gr) (hD0 : ∀ k, D k → w0.heap.size ≤ k)
  (hE : REach w0 gr B c bs w.heap.size 61 [v0, v1, v2] 66 #[.int .u64 0, .int .i64 0, .int .i64 0, .slice none 0 0, .slice none 0 0] (k66) each I D) :
  Calls Tryz.prog 60 #[.iface 82 (.pointer (some ⟨gr, 0, none⟩)), .pointer (some ⟨gp, off, none⟩), .func (.func 61) #[] #[v0, v1, v2]] w
   (RPost (Bd w0 w gr gp t cs.size D) (lst bs each s pos) fun x q w' => Rr w0 gr B c bs q w' ∧ I x.2 w' ∧ Kept w w' (fun k => k = gr ∨ k = gp ∨ D k) ∧ ∃ v, w'.heap[gp]? = some (.cells (cs.setIfInBounds off v) t (0, 0)) ∧ Rsp (k66) 66 w' w.heap.size (fun _ => True) v x.1 w'.heap.size) := by
 have hcp : w.cell? ⟨gp, off, none⟩ = some (.slice none 0 0) := (blk_cell hp off).trans hoff
 have hgr := blk_lt h.blk
 have hgp := blk_lt hp
 have hb : Below w.heap.size w (w.alloc (.cells #[.int .i64 0] 3)) := below_alloc (Below.refl _ _) _
 have HC := Aside0.mk (rinteger_any w0 gr w.heap.size 0 3 c pos 0 B bs #[.int .i64 0] (w.alloc (.cells #[.int .i64 0] 3)) hbb hbl (h.below hb) (heap_alloc_new w _) rfl (by omega) h.bel.size (by omega))
 have hset : cs.setIfInBounds off (.slice none 0 0) = cs := by
  apply Array.ext_getElem?
  intro j
  rw [Array.getElem?_setIfInBounds]
  by_cases hj : off = j
  ·subst hj
   rw [if_pos rfl, if_pos (Array.getElem?_eq_some_iff.1 hoff).1, hoff]
  ·rw [if_neg hj]
 have HSTART : Aside0 (∀ w2 q, Rr w0 gr B c bs q w2 → Kept (w.alloc (.cells #[.int .i64 0] 3)) w2 (fun k => k = gr ∨ k = w.heap.size) → RL w0 w gr gp off t c B bs cs (k66) 66 I D [] s q (.slice none 0 0) w2) := ⟨fun w2 q hr hk => by
  refine ⟨hr, hF s w _ hI ?_, ?_, ?_, Rsp_nil _ _ _ _ _ _⟩
  ·intro k h1 h2 h3
   rw [hk.2 k (Nat.lt_of_lt_of_le h1 hb.size) (by omega), hb.block k h1]
  ·refine (Kept.of_below hb _).then_ hk ?_
   rintro k (e | e)
   ·exact .inl (.inl e)
   ·exact .inr (by omega)
  ·rw [hset]
   exact blk_kept (blk_below hp hb) hk (by omega)⟩
 have HBAD : Aside0 (∀ {w2 : World}, Bd w0 (w.alloc (.cells #[.int .i64 0] 3)) gr w.heap.size 3 1 (fun _ => False) w2 → Bd w0 w gr gp t cs.size D w2) := ⟨fun h2 => Bd.new (Kept.of_below hb _) (blk_below hp hb) rfl h2 (Nat.le_refl _) hne hgp (fun k e => e.elim)⟩
 obtain ⟨R, hR⟩ : ∃ R, lst bs each s pos = R := ⟨_, rfl⟩
 rw [hR]
 obtain ⟨N, hN⟩ : ∃ N, num bs great pos = N := ⟨_, rfl⟩
 have HI : Aside0 (int bs 0 pos = N.bind fun n p => .ok ((n : Int) - 0) p) := ⟨by rw [← hN]; rfl⟩
 have HL : Aside0 (N.bind (fun n p => if bs.length - p < n then .bad bs.length 160 else many each n s p) = R) := ⟨by rw [← hN]; exact hR⟩
 rw [HI.out] at HC
 have HNE := Aside0.mk hne
 have H0 := Aside0.mk h0
 have HFI := Aside0.mk hF
 have HD := Aside0.mk hD
 have HEE := Aside0.mk hE
 have HGR := Aside0.mk hgr
 have HGP := Aside0.mk hgp
 have HT := Aside0.mk ht
 have HB0 := Aside0.mk h.bel.size
 have HOFF := Aside0.mk (Array.getElem?_eq_some_iff.1 hoff).1
 clear hI hF hD hE hgr hgp hset hR hN HI h hp hb ht hoff
 have ha1 := assert_rr ⟨gr, 0, none⟩
 cases N with
 | bad p code =>
  have HX : Aside0 (R = .bad p code) := ⟨HL.out.symm⟩
  go_enter Tryz.func60, Tryz.ntmps60
  go_wp2_with (fail)
  refine HC.out.mono ?_
  rintro en w2 ⟨rfl, hb2⟩
  exact ⟨rfl, RPost.of_bad HX.out (HBAD.out hb2)⟩
 | ok m p =>
  go_enter Tryz.func60, Tryz.ntmps60
  go_wp2_with (fail)
  refine HC.out.mono ?_
  rintro en w2 ⟨rfl, hr2, hk2, hb2⟩
  have HS := Aside0.mk (HSTART.out w2 p hr2 hk2)
  have hple := hr2.le
  have hn2 : w2.cell? ⟨w.heap.size, 0, none⟩ = some (.int .i64 (m : Int)) := by
   rw [blk_cell hb2 0]
   simp
  have hr20 : w2.cell? ⟨gr, 0, none⟩ = some (.slice B bs.length c) := (blk_cell hr2.blk 0).trans rfl
  have hr21 : w2.cell? ⟨gr, 1, none⟩ = some (.int .i64 p) := (blk_cell hr2.blk 1).trans rfl
  have hwr : IntKind.i64.wrap ((bs.length : Int) - (p : Int)) = (bs.length : Int) - p := by rw [IntKind.wrap_i64]; omega
  clear hr2 hk2 hb2
  by_cases hsh : bs.length - p < m
  ·have HX : Aside0 (R = .bad bs.length 160) := ⟨by rw [← HL.out]; simp only [Res.bind]; rw [if_pos hsh]⟩
   have HCS : Aside0 (∀ nq, Calls Tryz.prog 57 #[.pointer (some ⟨gr, 0, none⟩)] (w2.drewN nq) fun e w' => e = .panicked (failed bs.length 160) ∧ w2.drewN nq = w') := ⟨fun nq => rshort_any w0 gr c p B bs _ (HS.out.rr.below (pw_below_drewN (Below.refl _ _) nq))⟩
   have p1 : (bs.length : Int) - (p : Int) < (m : Int) := by omega
   have t1 : decide ((bs.length : Int) - (p : Int) < (m : Int)) = true := by simp only [decide_eq_true_eq]; omega
   clear hsh
   go_wp2_with (fail)
   go_quiet (fail)
   go_wp2_with (fail)
   refine (HCS.out _).mono ?_
   rintro e w' ⟨rfl, rfl⟩
   exact ⟨rfl, RPost.of_bad HX.out (HS.out.bd.below (pw_below_drewN (Below.refl _ _) _))⟩
  ·have HX : Aside0 (many each m s p = R) := ⟨by rw [← HL.out]; simp only [Res.bind]; rw [if_neg hsh]⟩
   have hmb : m ≤ bs.length := by omega
   have p1 : ¬ (bs.length : Int) - (p : Int) < (m : Int) := by omega
   have p2 : (m : Int) ≤ (bs.length : Int) - (p : Int) := by omega
   have t1 : decide ((bs.length : Int) - (p : Int) < (m : Int)) = false := by simp only [decide_eq_false_iff_not]; omega
   clear hsh
   go_wp2_with (fail)
   go_quiet (fail)
   go_wp2_with (fail)
   refine wp_world (p := RL w0 w gr gp off t c B bs cs (k66) 66 I D [] s p (.slice none 0 0)) ?_ ?_
   ·have hd := fun m => pw_below_drewN (Below.refl w2.heap.size w2) m
    have h := HS.out
    exact ⟨h.rr.below (hd _), HFI.out _ _ _ h.inv (fun _ _ _ _ => rfl), h.kept.drewN _, h.blk, (h.row.below (hd _)).mono (fun _ h => h) (Nat.le_refl _)⟩
   clear hr20 hr21 hn2 hwr HS HSTART HC HL hcp p1 p2 t1 ha1
   intro w3 hs3
   have HS3 := Aside0.mk hs3
   clear hs3
   have HXS : Aside0 ((many each (m - 0) s p).bind (fun y p => .ok ([] ++ y.1, y.2) p) = R) := ⟨by rw [Nat.sub_zero, bind_nil]; exact HX.out⟩
   clear HX
   go_loopw [36] (fun a wr => ∃ (i q : Nat) (s' : σ) (xs : List (S66)) (v : Value), a = .int .i64 i ∧ i ≤ m ∧ Aside0 (xs.length = i) ∧ Aside0 ((many each (m - i) s' q).bind (fun y p => .ok (xs ++ y.1, y.2) p) = R) ∧ Aside0 (RL w0 w gr gp off t c B bs cs (k66) 66 I D xs s' q v wr)) (fun a _ => m - (intOf a).toNat)
   case atStart => exact ⟨0, p, s, [], .slice none 0 0, rfl, by omega, ⟨rfl⟩, HXS, HS3⟩
   case round =>
    clear HXS HS3
    obtain ⟨i, q, s', xs, v, rfl, hi, HLN, HRR, HRL⟩ := hrel
    by_cases hlt : i < m
    ·have HU : Aside0 (((each s' q).bind fun x p1 => (many each (m - (i + 1)) x.2 p1).bind fun y p2 => .ok (x.1 :: y.1, y.2) p2).bind (fun y p => .ok (xs ++ y.1, y.2) p) = R) := ⟨by
      have := HRR.out
      rw [show m - i = (m - (i + 1)) + 1 by omega, many] at this
      exact this⟩
     have hroom := HRL.out.room HFI.out (.cells #[.int .u64 0, .int .i64 0, .int .i64 0, .slice none 0 0, .slice none 0 0] 66)
     have HCE := Aside0.mk (HEE.out s' q (wr.alloc (.cells #[.int .u64 0, .int .i64 0, .int .i64 0, .slice none 0 0, .slice none 0 0] 66)) wr.heap.size hroom.1 hroom.2 (heap_alloc_new wr _) HRL.out.kept.1)
     clear hroom
     obtain ⟨X, hX⟩ : ∃ X, each s' q = X := ⟨_, rfl⟩
     rw [hX] at HU HCE
     clear hX HRR
     cases X with
     | bad q2 code =>
      have HB : Aside0 (R = .bad q2 code) := ⟨HU.out.symm⟩
      go_wp2_with (fail)
      refine HCE.out.mono ?_
      rintro en w4 ⟨rfl, hb4⟩
      exact ⟨rfl, RPost.of_bad HB.out (Bd.new (HRL.out.kept.alloc _) (blk_alloc HRL.out.blk _) (by simp) hb4 HRL.out.kept.1 HNE.out HGP.out (fun k e => ⟨.inl e, (HD.out k e).2.1⟩))⟩
     | ok xq q2 =>
      obtain ⟨x, s2⟩ := xq
      have HV : Aside0 ((many each (m - (i + 1)) s2 q2).bind (fun y p => .ok ((xs ++ [x]) ++ y.1, y.2) p) = R) := ⟨by
       have := HU.out
       rw [← this]
       simp only [Res.bind]
       cases many each (m - (i + 1)) s2 q2 <;> simp⟩
      go_wp2_with (fail)
      refine HCE.out.mono ?_
      rintro en w4 ⟨rfl, hr4, hi4, hk4, cx, hb4, hm4⟩
      have HM := Aside0.mk (HRL.out.mid HGR.out HGP.out HNE.out HD.out hr4 hi4 hk4 hb4 hm4)
      obtain ⟨v3, v4, he, hr3, hr4⟩ := k66_openM hm4
      obtain ⟨A3, c3, rfl⟩ := Kd.R_slice hr3
      obtain ⟨A4, c4, rfl⟩ := Kd.R_slice hr4
      obtain rfl : cx = #[.int .u64 x.f0, .int .i64 x.f1, .int .i64 x.f2, .slice A3 x.f3.length c3, .slice A4 x.f4.length c4] := by have h_ := congrArg List.toArray he; simpa using h_
      clear hr3 hr4 he
      obtain ⟨Av, cv, rfl⟩ := Rsp_slice HM.out.row
      have hcx0 := (blk_cell HM.out.new 0).trans (show _ = some (.int .u64 x.f0) from rfl)
      have hcx1 := (blk_cell HM.out.new 1).trans (show _ = some (.int .i64 x.f1) from rfl)
      have hcx2 := (blk_cell HM.out.new 2).trans (show _ = some (.int .i64 x.f2) from rfl)
      have hcx3 := (blk_cell HM.out.new 3).trans (show _ = some (.slice A3 x.f3.length c3) from rfl)
      have hcx4 := (blk_cell HM.out.new 4).trans (show _ = some (.slice A4 x.f4.length c4) from rfl)
      have hcg : w4.cell? ⟨gp, off, none⟩ = some (.slice Av xs.length cv) := (blk_cell HM.out.blk off).trans (by have := HOFF.out; simp [this])
      have hfg := blk_frozen HM.out.blk off
      have hca : (w4.alloc (.cells #[.int .u64 x.f0, .int .i64 x.f1, .int .i64 x.f2, .slice A3 x.f3.length c3, .slice A4 x.f4.length c4] 66)).cell? ⟨gp, off, none⟩ = some (.slice Av xs.length cv) := (blk_cell (blk_alloc HM.out.blk _) off).trans (by have := HOFF.out; simp [this])
      clear hr4 hi4 hk4 hb4 hm4 HU HCE
      have hlx : xs.length < m := by have := HLN.out; omega
      go_wp2_with (fail)
      go_region_law (first | (refine Rsp_append_step (k66) (w0 := w4.drew) (W := w4.drew) w.heap.size (by rfl) (.tmp 43) (.tmp 45) 41 66 (.agg #[.int .u64 0, .int .i64 0, .int .i64 0, .slice none 0 0, .slice none 0 0]) 72 (by rfl) Tryz.underlying41 info66_ rfl (by decide) (by decide) (.slice Av xs.length cv) xs x [.int .u64 x.f0, .int .i64 x.f1, .int .i64 x.f2, .slice A3 x.f3.length c3, .slice A4 x.f4.length c4] (fun _ => True) wr.heap.size (by rfl) (by rfl) (Kd.M_below HM.out.el (below_drew (Below.refl _ _))) (fun k hk => ⟨trivial, fun e => by have := (HM.out.own k e.symm).2; omega⟩) (fun _ _ => trivial) (HM.out.row.below (below_drew (Below.refl _ _))) (Below.refl _ _) HM.out.kept.1 (by omega) ?_ (Nat.le_of_lt (blk_lt HM.out.new)); intro v1 w1 ho hb hg hat; obtain ⟨A1, c1, rfl⟩ := Rsp_slice ho; have hfz := blk_frozen (blk_grown (w := w4.drew) HM.out.blk hg (fun e => by have := (HM.out.own gp e.symm).1; have := HGP.out; omega)) off; have hcg1 := cell_grown hg hcg (fun e => by have := (HM.out.own gp e.symm).1; have := HGP.out; omega)))
      all_goals
       have HNX := Aside0.mk (HM.out.next HGR.out HGP.out HNE.out H0.out HFI.out (below_drew (Below.refl _ _)) hg ho HT.out)
       rw [List.length_append, List.length_singleton] at HNX
       clear ho hb hg hat hcx0 hcx1 hcx2 hcx3 hcx4 hcg hca hfg hfz hcg1
       go_wp2_with (fail)
       go_roundw
       case rel => exact ⟨i + 1, q2, s2, xs ++ [x], _, by go_num, by omega, ⟨by rw [List.length_append, HLN.out]; rfl⟩, HV, HNX⟩
       case measure => simp [intOf]; omega
    ·go_wp2_with (fail)
     go_end0
     have hR := HRR.out
     rw [show m - i = 0 by omega] at hR
     have h := HRL.out
     refine RPost.of_ok hR.symm ⟨h.rr, h.inv, h.kept, v, h.blk, ?_⟩
     simpa using h.row
end Go.Proofs.YtihjjkoddphmiaaGreatDoor.img

namespace Go.Proofs.YtihjjkoddphmiaaGreatDoor.img
open Go.RowKit Go.Proofs.YtihjjkoddphmiaaGreatDoorW.PrintWords Go.Proofs.YtihjjkoddphmiaaGreatDoorW.PrintMore Go.Proofs.YtihjjkoddphmiaaGreatDoor.PImageApart
set_option linter.unusedVariables false
set_option linter.unusedSimpArgs false

/-- The captured coder and what reads a plain number. -/
def IQ2 (gr : Nat) (q r : Addr) (_ : Unit) (w : World) : Prop := w.cell? q = some (.iface 82 (.pointer (some ⟨gr, 0, none⟩))) ∧ w.cell? r = some (.func (.func 58) #[] #[.pointer (some q)])
theorem IQ_firm {w : World} {gr gp : Nat} {q : Addr} (hq : q.block < w.heap.size) (hqr : q.block ≠ gr) (hqp : q.block ≠ gp) : Firm w gr gp (IQ gr q) :=
 fun _ w1 w2 h hk => (cell_block (hk q.block hq hqp hqr)).trans h
theorem IQ2_firm {w : World} {gr gp : Nat} {q r : Addr} (hq : q.block < w.heap.size) (hqr : q.block ≠ gr) (hqp : q.block ≠ gp) (hr : r.block < w.heap.size) (hrr : r.block ≠ gr) (hrp : r.block ≠ gp) : Firm w gr gp (IQ2 gr q r) :=
 fun _ w1 w2 h hk => ⟨(cell_block (hk q.block hq hqp hqr)).trans h.1, (cell_block (hk r.block hr hrp hrr)).trans h.2⟩
theorem kept3' {w w2 : World} {a b : Nat} {D : Nat → Prop} (h : Kept w w2 (fun k => k = a ∨ k = b ∨ False)) : Kept w w2 (fun k => k = a ∨ k = b ∨ D k) := h.mono (fun k e => e.elim (fun e => .inl e) (fun e => e.elim (fun e => .inr (.inl e)) (fun e => e.elim)))

section
variable (w0 : World) (gr : Nat) (B : Option Addr) (c : Nat) (bs : List Int) (base : Nat) (q r : Addr) (hbb : Bytes bs) (hbl : bs.length ≤ 1000000000) (hgr : gr < base) (h0 : w0.heap.size ≤ base) (hq : q.block < base) (hqr : q.block ≠ gr) (hr : r.block < base) (hrr : r.block ≠ gr)
include hbb hbl hgr h0 hq hqr hr hrr
set_option maxHeartbeats 4000000 in
set_option maxRecDepth 100000 in
theorem rframe_each : REach w0 gr B c bs base 68 [.pointer (some q), .pointer (some r)] 25 #[.slice none 0 0] (Kd.slice 3 (Kd.int .i64)) (ints bs 0) (IQ2 gr q r) (fun _ => False) := by
 intro s pos wr xb h hI hx hb
 have hxl := blk_lt hx
 have hc1 := hI.1
 have hc2 := hI.2
 have HI := Aside0.mk hI
 have HF := Aside0.mk (IQ2_firm (w := wr) (gr := gr) (gp := xb) (q := q) (r := r) (by omega) hqr (by omega) (by omega) hrr (by omega))
 have HC := Aside0.mk (rlist_70_66 w0 gr B c bs hbb hbl xb 0 25 pos #[.slice none 0 0] (.pointer (some q)) wr h hx rfl (by omega) (by omega) (by decide) (plain bs 0) () (IQ gr q) (fun _ => False) hI.1 (IQ_firm (by omega) hqr (by omega)) (fun _ hk => hk.elim) (fun _ hk => hk.elim) (rplain_each w0 gr B c bs wr.heap.size q hbb hbl (by omega) (by omega) (by omega) hqr))
 clear h hI hx
 obtain ⟨R, hR⟩ : ∃ R, lst bs (plain bs 0) () pos = R := ⟨_, rfl⟩
 have HR : Aside0 (ints bs 0 s pos = R) := ⟨hR⟩
 rw [hR] at HC
 clear hR
 cases R with
 | bad p code =>
  go_enter Tryz.func68, Tryz.ntmps68
  go_wp2_with (fail)
  refine HC.out.mono ?_
  rintro en w2 ⟨rfl, hb2⟩
  exact ⟨rfl, RPost.of_bad HR.out (Bd.same (Kept.refl _ _) hb2 (fun k e => e.elim))⟩
 | ok n p =>
  go_enter Tryz.func68, Tryz.ntmps68
  go_wp2_with (fail)
  refine HC.out.mono ?_
  rintro en w2 ⟨rfl, hr2, hi2, hk2, v, hb2, hv⟩
  have H := Aside0.mk (And.intro hr2 (And.intro hk2 (And.intro hb2 hv)))
  have HQ2 := Aside0.mk (HF.out () wr w2 HI.out (fun k h1 h2 h3 => hk2.2 k h1 (fun x => x.elim h3 (fun x => x.elim h2 id))))
  clear hr2 hk2 hb2 hv hi2 hc1 hc2
  go_wp2
  go_end0
  obtain ⟨h1, h2, h3, h4⟩ := H.out
  exact RPost.of_ok HR.out ⟨h1, HQ2.out, kept3' h2, _, h3, _, rfl, h4.toR⟩

set_option maxHeartbeats 4000000 in
set_option maxRecDepth 100000 in
theorem rslot_each : REach w0 gr B c bs base 66 [.pointer (some q), .pointer (some r)] 26 #[.slice none 0 0] (fsl 25 (Kd.slice 3 (Kd.int .i64))) (frames bs) (IQ2 gr q r) (fun _ => False) := by
 have hmf : ∀ (fn : Fn) (first cap : Array Value) (w : World), (Instr.makeFunc fn first cap).run Tryz.prog w = .ok (.func fn first cap) w := fun _ _ _ _ => rfl
 intro s pos wr xb h hI hx hb
 have hxl := blk_lt hx
 have hc1 := hI.1
 have HI := Aside0.mk hI
 have HF := Aside0.mk (IQ2_firm (w := wr) (gr := gr) (gp := xb) (q := q) (r := r) (by omega) hqr (by omega) (by omega) hrr (by omega))
 have HC := Aside0.mk (rlist_75_76 w0 gr B c bs hbb hbl xb 0 26 pos #[.slice none 0 0] (.pointer (some q)) (.pointer (some r)) wr h hx rfl (by omega) (by omega) (by decide) (ints bs 0) () (IQ2 gr q r) (fun _ => False) hI HF.out (fun _ hk => hk.elim) (fun _ hk => hk.elim) (rframe_each w0 gr B c bs wr.heap.size q r hbb hbl (by omega) (by omega) (by omega) hqr (by omega) hrr))
 clear h hI hx
 obtain ⟨R, hR⟩ : ∃ R, lst bs (ints bs 0) () pos = R := ⟨_, rfl⟩
 have HR : Aside0 (frames bs s pos = R) := ⟨hR⟩
 rw [hR] at HC
 clear hR
 cases R with
 | bad p code =>
  go_enter Tryz.func66, Tryz.ntmps66
  go_wp2_with (fail)
  refine HC.out.mono ?_
  rintro en w2 ⟨rfl, hb2⟩
  exact ⟨rfl, RPost.of_bad HR.out (Bd.same (Kept.refl _ _) hb2 (fun k e => e.elim))⟩
 | ok n p =>
  go_enter Tryz.func66, Tryz.ntmps66
  go_wp2_with (fail)
  refine HC.out.mono ?_
  rintro en w2 ⟨rfl, hr2, hi2, hk2, v, hb2, hv⟩
  have H := Aside0.mk (And.intro hr2 (And.intro hi2 (And.intro hk2 (And.intro hb2 hv))))
  clear hr2 hk2 hb2 hv hi2 hc1
  go_wp2
  go_end0
  obtain ⟨h1, h5, h2, h3, h4⟩ := H.out
  exact RPost.of_ok HR.out ⟨h1, h5, kept3' h2, _, h3, _, _, rfl, h4⟩
end
end Go.Proofs.YtihjjkoddphmiaaGreatDoor.img

namespace Go.Proofs.YtihjjkoddphmiaaGreatDoor.img
open Go.RowKit Go.Proofs.YtihjjkoddphmiaaGreatDoorW.PrintWords Go.Proofs.YtihjjkoddphmiaaGreatDoorW.PrintMore Go.Proofs.YtihjjkoddphmiaaGreatDoor.PImageApart
set_option linter.unusedVariables false
set_option linter.unusedSimpArgs false

theorem wpx_world {K : Act → World → Prop} {Q : Exit → Act → World → Prop} {e : Exit} {a : Act} {w1 : World} {p : World → Prop} (h : p w1) (k : ∀ w2, p w2 → Exit.then K Q e a w2) : Exit.then K Q e a w1 := k w1 h
/-- A reader's walk over a struct's fields (block gx): where it stands. -/
structure RS (w0 w : World) (gr gx tx c : Nat) (B : Option Addr) (bs : List Int) (D : Nat → Prop) (q : Nat) (cx : Array Value) (wi : World) : Prop where
 rr : Rr w0 gr B c bs q wi
 kept : Kept w wi (fun k => k = gr ∨ k = gx ∨ D k)
 blk : wi.heap[gx]? = some (.cells cx tx (0, 0))
section
variable {w0 w wi wj : World} {gr gx tx c q q' : Nat} {B : Option Addr} {bs : List Int} {D S : Nat → Prop} {cx cx' : Array Value}
theorem RS.below (h : RS w0 w gr gx tx c B bs D q cx wi) (hb : Below wi.heap.size wi wj) : RS w0 w gr gx tx c B bs D q cx wj := ⟨h.rr.below hb, h.kept.below hb, blk_below h.blk hb⟩
theorem RS.step (h : RS w0 w gr gx tx c B bs D q cx wi) (hr : Rr w0 gr B c bs q' wj) (hk : Kept wi wj S) (hS : ∀ k, S k → (k = gr ∨ k = gx ∨ D k) ∨ w.heap.size ≤ k) (hb : wj.heap[gx]? = some (.cells cx' tx (0, 0))) : RS w0 w gr gx tx c B bs D q' cx' wj := ⟨hr, h.kept.then_ hk hS, hb⟩
theorem RS.cell (h : RS w0 w gr gx tx c B bs D q cx wi) {a : Addr} {v : Value} (hc : w.cell? a = some v) (h1 : a.block ≠ gr) (h2 : a.block ≠ gx) (h3 : ¬ D a.block) : wi.cell? a = some v := cell_kept hc h.kept (fun x => x.elim h1 (fun x => x.elim h2 h3))
theorem RS.set (h : RS w0 w gr gx tx c B bs D q cx wi) (hne : gx ≠ gr) (h0 : w0.heap.size ≤ gx) (j : Nat) (u : Value) (he : cx.setIfInBounds j u = cx') : RS w0 w gr gx tx c B bs D q cx' (wi.setCell ⟨gx, j, none⟩ u) :=
 ⟨h.rr.other hne h0 _, h.kept.setCell (.inl (.inr (.inl rfl))) _, blk_put h.blk j u he⟩
theorem RS.far (h : RS w0 w gr gx tx c B bs D q cx wi) {g : Nat} (hg : D g) (hgr : g ≠ gr) (hgx : g ≠ gx) (h0 : w0.heap.size ≤ g) (j : Nat) (u : Value) : RS w0 w gr gx tx c B bs D q cx (wi.setCell ⟨g, j, none⟩ u) :=
 ⟨h.rr.other hgr h0 _, h.kept.setCell (.inl (.inr (.inr hg))) _, blk_far h.blk (fun e => hgx e.symm) _⟩
end

/-- The parts of an object, one behind the other. -/
def obj4 (b : List Int) (ns kind site : Int) (ptrs : List Int) (p3 : Nat) : Res (S66 × Int) := (lst b (raw b) () p3).bind fun raws p4 => .ok (⟨ns, kind, site, ptrs, raws.1⟩, ns) p4
def obj3 (b : List Int) (ns kind site : Int) (p2 : Nat) : Res (S66 × Int) := (ints b 0 () p2).bind fun ptrs p3 => obj4 b ns kind site ptrs.1 p3
def obj2 (b : List Int) (ns kind : Int) (p1 : Nat) : Res (S66 × Int) := (int b 0 p1).bind fun site p2 => obj3 b ns kind site p2
def obj1 (b : List Int) (ns : Int) (p0 : Nat) : Res (S66 × Int) := (int b 0 p0).bind fun kind p1 => obj2 b ns kind p1
theorem R_past {α : Type} {d : Kd α} {e base : Nat} {v : Value} {xs : List α} {w w1 : World} {S : Nat → Prop} (h : d.R e w base (fun _ => True) v xs) (hk : Kept w w1 S) (hS : ∀ k, S k → k < base) : d.R e w1 base (fun _ => True) v xs :=
 Kd.R_mono (Kd.R_kept (Kd.R_bound h) hk (fun k ho hs => by have := ho.2.1; have := hS k hs; omega)) (fun _ _ => trivial)

/-- What the closure over objects needs. -/
def IO (gr gl : Nat) (q r : Addr) (last : Int) (w : World) : Prop := (w.cell? q = some (.iface 82 (.pointer (some ⟨gr, 0, none⟩))) ∧ w.cell? r = some (.func (.func 58) #[] #[.pointer (some q)])) ∧ w.heap[gl]? = some (.cells #[.int .u64 last] 42 (0, 0)) ∧ 0 ≤ last ∧ last ≤ 9223372036854775808

section
variable (w0 : World) (gr gl : Nat) (B : Option Addr) (c : Nat) (bs : List Int) (base : Nat) (q r : Addr) (hbb : Bytes bs) (hbl : bs.length ≤ 1000000000) (hgr : gr < base) (h0 : w0.heap.size ≤ base) (hq : q.block < base) (hqr : q.block ≠ gr) (hr : r.block < base) (hrr : r.block ≠ gr) (hgl : gl < base) (hglr : gl ≠ gr) (hql : q.block ≠ gl) (hrl : r.block ≠ gl) (hgl0 : w0.heap.size ≤ gl)
include hbb hbl hgr h0 hq hqr hr hrr hgl hglr hql hrl hgl0
set_option maxHeartbeats 8000000 in
set_option maxRecDepth 100000 in
theorem robj_each : REach w0 gr B c bs base 61 [.pointer (some ⟨gl, 0, none⟩), .pointer (some q), .pointer (some r)] 66 #[.int .u64 0, .int .i64 0, .int .i64 0, .slice none 0 0, .slice none 0 0] k66 (obj bs) (IO gr gl q r) (fun k => k = gl) := by
 have hmf : ∀ (fn : Fn) (first cap : Array Value) (w : World), (Instr.makeFunc fn first cap).run Tryz.prog w = .ok (.func fn first cap) w := fun _ _ _ _ => rfl
 have hmr := method_r ⟨gr, 0, none⟩
 intro last pos wr xb h hI hx hb
 obtain ⟨⟨hcq, hcr⟩, hcl, hl0, hl1⟩ := hI
 have hxl := blk_lt hx
 have hrl0 := blk_lt h.blk
 have hp0 : wr.cell? ⟨xb, 0, none⟩ = some (.int .u64 0) := (blk_cell hx 0).trans rfl
 have hl : wr.cell? ⟨gl, 0, none⟩ = some (.int .u64 last) := (blk_cell hcl 0).trans rfl
 obtain ⟨z, hz1⟩ : ∃ z, IntKind.u64.wrap (0 - last) = z := ⟨_, rfl⟩
 have hz2 : IntKind.u64.wrap (-last) = z := by rw [← hz1, Int.zero_sub]
 have HQ := Aside0.mk hcq
 have HRR := Aside0.mk hcr
 have HL := Aside0.mk hcl
 have HXL := Aside0.mk (show xb ≠ gr ∧ xb ≠ gl ∧ q.block ≠ xb ∧ r.block ≠ xb ∧ w0.heap.size ≤ xb by omega)
 have HSZ := Aside0.mk (show gr < wr.heap.size ∧ gl < wr.heap.size ∧ xb < wr.heap.size ∧ w0.heap.size ≤ wr.heap.size by have := h.bel.size; omega)
 have HS0 : Aside0 (RS w0 wr gr xb 66 c B bs (fun k => k = gl) pos #[.int .u64 0, .int .i64 0, .int .i64 0, .slice none 0 0, .slice none 0 0] wr) := ⟨⟨h, Kept.refl _ _, hx⟩⟩
 obtain ⟨R, hR⟩ : ∃ R, obj bs last pos = R := ⟨_, rfl⟩
 obtain ⟨N, hN⟩ : ∃ N, num bs 4611686018427387905 pos = N := ⟨_, rfl⟩
 have HR : Aside0 (N.bind (fun step p0 => obj1 bs (min (last + step) 9223372036854775808) p0) = R) := ⟨by rw [← hN, ← hR]; rfl⟩
 have HN := Aside0.mk hN
 rw [hR]
 clear h hcq hcr hcl hx hR hxl hrl0 hN
 go_enter Tryz.func61, Tryz.ntmps61
 go_wp2
 go_region_held3 (fun w' => w'.cell? ⟨xb, 0, none⟩ = some (.int .u64 0) ∧ w'.cell? ⟨gl, 0, none⟩ = some (.int .u64 last)) (go_keep) ((fail))
 refine wpx_world (p := fun w1 => RS w0 wr gr xb 66 c B bs (fun k => k = gl) pos #[.int .u64 0, .int .i64 0, .int .i64 0, .slice none 0 0, .slice none 0 0] w1 ∧ w1.heap[wr.heap.size]? = some (.cells #[.int .u64 z] 42 (0, 0)) ∧ w1.heap[gl]? = some (.cells #[.int .u64 last] 42 (0, 0))) ?_ ?_
 ·have hb1 : Below wr.heap.size wr (wr.alloc (.cells #[.int .u64 z] 42)).drew := (below_alloc (Below.refl _ _) _).drew
  exact ⟨HS0.out.below hb1, heap_alloc_new wr _, blk_below HL.out hb1⟩
 rintro w1 ⟨hs1, hst1, hgl1⟩
 have HS1 := Aside0.mk hs1
 have HG1 := Aside0.mk hgl1
 have hcq1 := hs1.cell HQ.out hqr HXL.out.2.2.1 hql
 have HC := Aside0.mk (rnumber_any w0 gr wr.heap.size 0 42 c pos 4611686018427387905 B bs #[.int .u64 z] w1 hbb hbl hs1.rr hst1 (by simp) (by have := HSZ.out; omega) HSZ.out.2.2.2 (by omega))
 rw [HN.out] at HC
 clear hs1 hst1 hgl1 hp0 hl hz1 hz2 HS0
 go_wp2_with (fail)
 refine HC.out.mono ?_
 clear HC
 cases N with
 | bad p code =>
  rintro en w2 ⟨rfl, hb2⟩
  exact ⟨rfl, RPost.of_bad HR.out.symm (Bd.new HS1.out.kept HS1.out.blk rfl hb2 (Nat.le_refl _) HXL.out.1 HSZ.out.2.2.1 (fun k e => e.elim))⟩
 | ok step p =>
 rintro en w2 ⟨rfl, hr2, hk2, hst2⟩
 have hstep := (num_says hbb HN.out).2.2
 have HS2 := Aside0.mk (HS1.out.step hr2 hk2 (fun k e => e.elim (fun e => .inl (.inl e)) (fun e => .inr (by omega))) (blk_kept HS1.out.blk hk2 (by have := HSZ.out; have := HXL.out; omega)))
 have HG2 := Aside0.mk (blk_kept HG1.out hk2 (by have := HSZ.out; omega))
 have hp2 : w2.cell? ⟨xb, 0, none⟩ = some (.int .u64 0) := (blk_cell HS2.out.blk 0).trans rfl
 have hf2 := blk_frozen HS2.out.blk 0
 have hl2 : w2.cell? ⟨gl, 0, none⟩ = some (.int .u64 last) := (blk_cell HG2.out 0).trans rfl
 have hfl2 := blk_frozen HG2.out 0
 have hx2 : w2.cell? ⟨wr.heap.size, 0, none⟩ = some (.int .u64 step) := (blk_cell hst2 0).trans rfl
 have hw2 : IntKind.u64.wrap (last + (step : Int)) = last + step := by
  show (last + (step : Int)) % 18446744073709551616 = _
  omega
 clear hr2 hk2 hst2 hcq1 HS1 HG1
 go_wp2_with (fail)
 all_goals
  refine wp_world (p := fun w3 => RS w0 wr gr xb 66 c B bs (fun k => k = gl) p #[.int .u64 (min (last + step) 9223372036854775808), .int .i64 0, .int .i64 0, .slice none 0 0, .slice none 0 0] w3 ∧ w3.heap[gl]? = some (.cells #[.int .u64 (min (last + step) 9223372036854775808)] 42 (0, 0))) ?_ ?_
  ·first
    | rw [show min (last + (step : Int)) 9223372036854775808 = last + step from by omega]
    | rw [show min (last + (step : Int)) 9223372036854775808 = 9223372036854775808 from by omega]
   have h1 := fun u : Value => HS2.out.set (cx' := #[u, .int .i64 0, .int .i64 0, .slice none 0 0, .slice none 0 0]) HXL.out.1 HXL.out.2.2.2.2 0 u rfl
   exact ⟨(h1 _).far rfl hglr (by have := HXL.out; omega) hgl0 0 _, blk_set (blk_far HG2.out (fun e => HXL.out.2.1 e.symm) _) 0 _⟩
  rintro w3 ⟨hs3, hgl3⟩
  have HNS := Aside0.mk (show 0 ≤ min (last + (step : Int)) 9223372036854775808 ∧ min (last + (step : Int)) 9223372036854775808 ≤ 9223372036854775808 by omega)
  have HR1 : Aside0 (obj1 bs (min (last + (step : Int)) 9223372036854775808) p = R) := ⟨HR.out⟩
  generalize min (last + (step : Int)) 9223372036854775808 = ns at *
  have HS3 := Aside0.mk hs3
  have HG3 := Aside0.mk hgl3
  have hcq3 := hs3.cell HQ.out hqr HXL.out.2.2.1 hql
  clear hs3 hgl3 hp2 hf2 hl2 hfl2 hx2 hw2 HS2 HG2 hstep HR
  go_still_tail 4, (by kernel_rfl)
  change wpList _ _ _ _ _ w3.drew
  have HD3 := Aside0.mk (HS3.out.below (below_drew (Below.refl _ _)))
  have HDG3 : Aside0 (w3.drew.heap[gl]? = some (.cells #[.int .u64 ns] 42 (0, 0))) := HG3
  generalize w3.drew = d3 at *
  obtain ⟨K1, hK1⟩ : ∃ K, int bs 0 p = K := ⟨_, rfl⟩
  have HK1 : Aside0 (K1.bind (fun kind p1 => obj2 bs ns kind p1) = R) := ⟨by rw [← hK1]; exact HR1.out⟩
  have HC1 := Aside0.mk (rinteger_any w0 gr xb 1 66 c p 0 B bs _ d3 hbb hbl HD3.out.rr HD3.out.blk rfl HXL.out.1 HXL.out.2.2.2.2 (by omega))
  rw [hK1] at HC1
  clear hK1 HR1 hcq3 HS3 HG3
  go_wp2_with (fail)
  refine HC1.out.mono ?_
  clear HC1
  cases K1 with
  | bad p code =>
   rintro en w4 ⟨rfl, hb2⟩
   exact ⟨rfl, RPost.of_bad HK1.out.symm (Bd.same HD3.out.kept hb2 (fun k e => e.elim))⟩
  | ok kind p1 =>
  rintro en w4 ⟨rfl, hr4, hk4, hb4⟩
  have HS4 := Aside0.mk (HD3.out.step hr4 hk4 (fun k e => e.elim (fun e => .inl (.inl e)) (fun e => .inl (.inr (.inl e)))) hb4)
  have HG4 := Aside0.mk (blk_kept HDG3.out hk4 (by have := HXL.out; omega))
  have hcq4 := HS4.out.cell HQ.out hqr HXL.out.2.2.1 hql
  clear hr4 hk4 hb4 HD3 HDG3
  go_wp2_with (fail)
  go_still_tail 4, (by kernel_rfl)
  change wpList _ _ _ _ _ w4.drew
  have HD4 := Aside0.mk (HS4.out.below (below_drew (Below.refl _ _)))
  have HDG4 : Aside0 (w4.drew.heap[gl]? = some (.cells #[.int .u64 ns] 42 (0, 0))) := HG4
  generalize w4.drew = d4 at *
  obtain ⟨K2, hK2⟩ : ∃ K, int bs 0 p1 = K := ⟨_, rfl⟩
  have HK2 : Aside0 (K2.bind (fun site p2 => obj3 bs ns kind site p2) = R) := ⟨by rw [← hK2]; exact HK1.out⟩
  have HC2 := Aside0.mk (rinteger_any w0 gr xb 2 66 c p1 0 B bs _ d4 hbb hbl HD4.out.rr HD4.out.blk rfl HXL.out.1 HXL.out.2.2.2.2 (by omega))
  rw [hK2] at HC2
  clear hK2 HK1 hcq4 HS4 HG4
  go_wp2_with (fail)
  refine HC2.out.mono ?_
  clear HC2
  cases K2 with
  | bad p code =>
   rintro en w5 ⟨rfl, hb2⟩
   exact ⟨rfl, RPost.of_bad HK2.out.symm (Bd.same HD4.out.kept hb2 (fun k e => e.elim))⟩
  | ok site p2 =>
  rintro en w5 ⟨rfl, hr5, hk5, hb5⟩
  have HS5 := Aside0.mk (HD4.out.step hr5 hk5 (fun k e => e.elim (fun e => .inl (.inl e)) (fun e => .inl (.inr (.inl e)))) hb5)
  have HG5 := Aside0.mk (blk_kept HDG4.out hk5 (by have := HXL.out; omega))
  have hcq5 := HS5.out.cell HQ.out hqr HXL.out.2.2.1 hql
  have hcr5 := HS5.out.cell HRR.out hrr HXL.out.2.2.2.1 hrl
  clear hr5 hk5 hb5 HD4 HDG4
  go_wp2_with (fail)
  go_still_tail 5, (by kernel_rfl)
  change wpList _ _ _ _ _ w5.drew
  have HD5 := Aside0.mk (HS5.out.below (below_drew (Below.refl _ _)))
  have HDG5 : Aside0 (w5.drew.heap[gl]? = some (.cells #[.int .u64 ns] 42 (0, 0))) := HG5
  have HDQ5 : Aside0 (w5.drew.cell? q = some (.iface 82 (.pointer (some ⟨gr, 0, none⟩)))) := ⟨hcq5⟩
  generalize w5.drew = d5 at *
  have HZ5 := Aside0.mk (show gr < d5.heap.size ∧ gl < d5.heap.size ∧ xb < d5.heap.size ∧ w0.heap.size ≤ d5.heap.size ∧ q.block < d5.heap.size ∧ wr.heap.size ≤ d5.heap.size by have := HSZ.out; have := HD5.out.kept.1; omega)
  obtain ⟨K3, hK3⟩ : ∃ K, ints bs 0 () p2 = K := ⟨_, rfl⟩
  have HK3 : Aside0 (K3.bind (fun ptrs p3 => obj4 bs ns kind site ptrs.1 p3) = R) := ⟨by rw [← hK3]; exact HK2.out⟩
  have HC3 := Aside0.mk (rlist_70_66 w0 gr B c bs hbb hbl xb 3 66 p2 _ (.pointer (some q)) d5 HD5.out.rr HD5.out.blk rfl HXL.out.1 HXL.out.2.2.2.2 (by decide) (plain bs 0) () (IQ gr q) (fun _ => False) HDQ5.out (IQ_firm HZ5.out.2.2.2.2.1 hqr HXL.out.2.2.1) (fun _ hk => hk.elim) (fun _ hk => hk.elim) (rplain_each w0 gr B c bs d5.heap.size q hbb hbl HZ5.out.1 HZ5.out.2.2.2.1 HZ5.out.2.2.2.2.1 hqr))
  rw [show lst bs (plain bs 0) () p2 = K3 from hK3] at HC3
  clear hK3 HK2 hcq5 hcr5 HS5 HG5
  go_wp2_with (fail)
  refine HC3.out.mono ?_
  clear HC3
  cases K3 with
  | bad p code =>
   rintro en w6 ⟨rfl, hb2⟩
   exact ⟨rfl, RPost.of_bad HK3.out.symm (Bd.same HD5.out.kept hb2 (fun k e => e.elim))⟩
  | ok ptrs p3 =>
  rintro en w6 ⟨rfl, hr6, hi6, hk6, v3, hb6, hv3⟩
  have HS6 := Aside0.mk (HD5.out.step hr6 hk6 (fun k e => e.elim (fun e => .inl (.inl e)) (fun e => e.elim (fun e => .inl (.inr (.inl e))) (fun e => e.elim))) hb6)
  have HG6 := Aside0.mk (blk_kept HDG5.out hk6 (fun e => by have := HXL.out; rcases e with e | e | e <;> omega))
  have HV6 := Aside0.mk hv3
  have hcq6 := HS6.out.cell HQ.out hqr HXL.out.2.2.1 hql
  clear hr6 hi6 hk6 hb6 hv3 HD5 HDG5 HDQ5
  go_wp2_with (fail)
  go_still_tail 5, (by kernel_rfl)
  change wpList _ _ _ _ _ w6.drew
  have HD6 := Aside0.mk (HS6.out.below (below_drew (Below.refl _ _)))
  have HDG6 : Aside0 (w6.drew.heap[gl]? = some (.cells #[.int .u64 ns] 42 (0, 0))) := HG6
  have HDQ6 : Aside0 (w6.drew.cell? q = some (.iface 82 (.pointer (some ⟨gr, 0, none⟩)))) := ⟨hcq6⟩
  have HDV6 : Aside0 ((Kd.int .i64).R 3 w6.drew d5.heap.size (fun _ => True) v3 ptrs.1) := ⟨Kd.R_below HV6.out.toR (below_drew (Below.refl _ _))⟩
  generalize w6.drew = d6 at *
  have HZ6 := Aside0.mk (show gr < d6.heap.size ∧ xb < d6.heap.size ∧ w0.heap.size ≤ d6.heap.size ∧ q.block < d6.heap.size ∧ wr.heap.size ≤ d6.heap.size by have := HSZ.out; have := HZ5.out; have := HD6.out.kept.1; omega)
  obtain ⟨K4, hK4⟩ : ∃ K, lst bs (raw bs) () p3 = K := ⟨_, rfl⟩
  have HK4 : Aside0 (K4.bind (fun raws p4 => .ok (⟨ns, kind, site, ptrs.1, raws.1⟩, ns) p4) = R) := ⟨by rw [← hK4]; exact HK3.out⟩
  have HC4 := Aside0.mk (rlist_71_72 w0 gr B c bs hbb hbl xb 4 66 p3 _ (.pointer (some q)) d6 HD6.out.rr HD6.out.blk rfl HXL.out.1 HXL.out.2.2.2.2 (by decide) (raw bs) () (IQ gr q) (fun _ => False) HDQ6.out (IQ_firm HZ6.out.2.2.2.1 hqr HXL.out.2.2.1) (fun _ hk => hk.elim) (fun _ hk => hk.elim) (rraw_each w0 gr B c bs d6.heap.size q hbb hbl HZ6.out.1 HZ6.out.2.2.1 HZ6.out.2.2.2.1 hqr))
  rw [hK4] at HC4
  clear hK4 HK3 hcq6 HS6 HG6 HV6
  go_wp2_with (fail)
  refine HC4.out.mono ?_
  clear HC4
  cases K4 with
  | bad p code =>
   rintro en w7 ⟨rfl, hb2⟩
   exact ⟨rfl, RPost.of_bad HK4.out.symm (Bd.same HD6.out.kept hb2 (fun k e => e.elim))⟩
  | ok raws p4 =>
  rintro en w7 ⟨rfl, hr7, hi7, hk7, v4, hb7, hv4⟩
  have HS7 := Aside0.mk (HD6.out.step hr7 hk7 (fun k e => e.elim (fun e => .inl (.inl e)) (fun e => e.elim (fun e => .inl (.inr (.inl e))) (fun e => e.elim))) hb7)
  have HG7 := Aside0.mk (blk_kept HDG6.out hk7 (fun e => by have := HXL.out; rcases e with e | e | e <;> omega))
  have HV7 := Aside0.mk (Kd.R_lower (R_past HDV6.out hk7 (fun k e => by have := HZ5.out; rcases e with e | e | e; omega; omega; exact e.elim)) HZ5.out.2.2.2.2.2)
  have HW7 := Aside0.mk (Kd.R_lower hv4.toR HZ6.out.2.2.2.2)
  clear hr7 hi7 hk7 hb7 hv4
  go_wp2_with (fail)
  go_end0
  have h := HS7.out
  refine RPost.of_ok HK4.out.symm ⟨h.rr, ⟨⟨h.cell HQ.out hqr HXL.out.2.2.1 hql, h.cell HRR.out hrr HXL.out.2.2.2.1 hrl⟩, HG7.out, HNS.out⟩, h.kept, _, h.blk, ?_⟩
  exact k66_mkM _ _ _ ⟨ns, kind, site, ptrs.1, raws.1⟩ HV7.out HW7.out
end
end Go.Proofs.YtihjjkoddphmiaaGreatDoor.img
