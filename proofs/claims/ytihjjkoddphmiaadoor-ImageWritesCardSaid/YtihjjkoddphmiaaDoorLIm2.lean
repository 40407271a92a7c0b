import Derived.Test.YtihjjkoddphmiaaDoorLIm1
import Derived.Deep.RegionHeld3
import Derived.Deep.RegionLaw
namespace Go.Proofs.YtihjjkoddphmiaaDoor.img
open Go.RowKit Go.Proofs.YtihjjkoddphmiaaDoorW.PrintWords Go.Proofs.YtihjjkoddphmiaaDoorW.PrintMore Go.Proofs.YtihjjkoddphmiaaDoor.PImageRound
set_option linter.unusedVariables false
set_option linter.unusedSimpArgs false

theorem assert_wr (a : Addr) (w : World) : (Instr.typeAssert (.iface 73 (.pointer (some a))) 111 91 true).run Tryd.prog w = .ok (.tuple #[.pointer none, .bool false]) w := by kernel_rfl
theorem assert_ww (a : Addr) (w : World) : (Instr.typeAssert (.iface 73 (.pointer (some a))) 111 73 true).run Tryd.prog w = .ok (.tuple #[.pointer (some a), .bool true]) w := by kernel_rfl

set_option maxHeartbeats 4000000 in
set_option maxRecDepth 100000 in
theorem wlist_70_66 (w0 : World) (gw : Nat) (p : Addr) (A : Option Addr) (n c : Nat) (v0 : Value) (bs : List Int) (w : World) (P : Nat → World → Prop) (h : Wt w0 gw w bs) (hbs : bs.length ≤ 1000000000000) (hn : n ≤ 1000000) (hp : w.cell? p = some (.slice A n c))
    (hP0 : ∀ w1, Wt w0 gw w1 (bs ++ enc n) → WStep gw w w1 → P 0 w1) (hcell : ∀ i wr, P i wr → wr.cell? p = some (.slice A n c))
    (hE : ∀ i wr, i < n → P i wr → ∃ ad, A = some ad ∧ Calls Tryd.prog 66 #[.pointer (some (ad.add i)), v0] wr fun e w' => e = .returned (.tuple #[]) ∧ P (i + 1) w') :
    Calls Tryd.prog 70 #[.iface 73 (.pointer (some ⟨gw, 0, none⟩)), .pointer (some p), .func (.func 66) #[] #[v0]] w fun e w' => e = .returned (.tuple #[]) ∧ P n w' := by
  have HB : Aside0 (Below w.heap.size w (w.alloc (.cells #[.int .i64 n] 3))) := ⟨below_alloc (Below.refl _ _) _⟩
  have HC : Aside0 ((w.alloc (.cells #[.int .i64 (n : Int)] 3)).heap[w.heap.size]? = some (.cells #[.int .i64 (n : Int)] 3 (0, 0))) := ⟨heap_alloc_new w _⟩
  have hgw : w.heap.size ≠ gw := by
    obtain ⟨v, hv, -⟩ := h.row
    have := blk_lt hv
    omega
  have HCN : Aside0 (Calls Tryd.prog 67 #[.iface 73 (.pointer (some ⟨gw, 0, none⟩)), .pointer (some ⟨w.heap.size, 0, none⟩), .int .i64 0] (w.alloc (.cells #[.int .i64 (n : Int)] 3)) fun e w' => e = .returned (.tuple #[]) ∧ P 0 w') := ⟨by
    refine (winteger_any w0 gw ⟨w.heap.size, 0, none⟩ n 0 bs _ (h.after HB.out) (cell_of_one HC.out) (free_of_one HC.out) (.inr ⟨3, _, hgw, by decide, HC.out⟩) (by omega) (by omega) (by omega) hbs).mono ?_
    rintro e w' ⟨rfl, h1, h2⟩
    refine ⟨rfl, hP0 w' ?_ ((WStep.of_below HB.out).trans h2)⟩
    have e : encI 0 (n : Int) = enc n := by simp [encI]
    rw [e] at h1
    exact h1⟩
  have HCELL := Aside0.mk hcell
  have HE := Aside0.mk hE
  clear h hP0 hcell hE hgw HB HC
  have ha1 := assert_wr ⟨gw, 0, none⟩
  have ha2 := assert_ww ⟨gw, 0, none⟩
  go_enter Tryd.func70, Tryd.ntmps70
  go_wp2_with (fail)
  refine HCN.out.mono ?_
  rintro en w1 ⟨rfl, hp0⟩
  have HP0 := Aside0.mk hp0
  have hc1 := HCELL.out _ _ hp0
  clear hp0 hp
  go_wp2
  go_loopw [56] (fun a wr => ∃ (i : Nat), i ≤ n ∧ a = .int .i64 i ∧ Aside0 (P i wr)) (fun a _ => n - (intOf a).toNat)
  case atStart => exact ⟨0, Nat.zero_le _, rfl, HP0⟩
  case round =>
    clear HP0 hc1
    obtain ⟨i, hi, rfl, HP⟩ := hrel
    have hc2 := HCELL.out _ _ HP.out
    by_cases hlt : i < n
    · obtain ⟨ad, rfl, hcall⟩ := HE.out i wr hlt HP.out
      have HCL := Aside0.mk hcall
      clear hcall
      go_wp2_with (fail)
      refine HCL.out.mono ?_
      rintro en w2 ⟨rfl, hp2⟩
      have HP2 := Aside0.mk hp2
      clear hp2
      go_wp2
      go_roundw
      case rel => exact ⟨i + 1, by omega, by go_num, HP2⟩
      case measure => simp [intOf]; omega
    · go_wp2
      go_end0
      have e : i = n := by omega
      rw [← e]
      exact ⟨rfl, HP.out⟩

set_option maxHeartbeats 4000000 in
set_option maxRecDepth 100000 in
theorem wlist_70_77 (w0 : World) (gw : Nat) (p : Addr) (A : Option Addr) (n c : Nat) (v0 : Value) (bs : List Int) (w : World) (P : Nat → World → Prop) (h : Wt w0 gw w bs) (hbs : bs.length ≤ 1000000000000) (hn : n ≤ 1000000) (hp : w.cell? p = some (.slice A n c))
    (hP0 : ∀ w1, Wt w0 gw w1 (bs ++ enc n) → WStep gw w w1 → P 0 w1) (hcell : ∀ i wr, P i wr → wr.cell? p = some (.slice A n c))
    (hE : ∀ i wr, i < n → P i wr → ∃ ad, A = some ad ∧ Calls Tryd.prog 77 #[.pointer (some (ad.add i)), v0] wr fun e w' => e = .returned (.tuple #[]) ∧ P (i + 1) w') :
    Calls Tryd.prog 70 #[.iface 73 (.pointer (some ⟨gw, 0, none⟩)), .pointer (some p), .func (.func 77) #[] #[v0]] w fun e w' => e = .returned (.tuple #[]) ∧ P n w' := by
  have HB : Aside0 (Below w.heap.size w (w.alloc (.cells #[.int .i64 n] 3))) := ⟨below_alloc (Below.refl _ _) _⟩
  have HC : Aside0 ((w.alloc (.cells #[.int .i64 (n : Int)] 3)).heap[w.heap.size]? = some (.cells #[.int .i64 (n : Int)] 3 (0, 0))) := ⟨heap_alloc_new w _⟩
  have hgw : w.heap.size ≠ gw := by
    obtain ⟨v, hv, -⟩ := h.row
    have := blk_lt hv
    omega
  have HCN : Aside0 (Calls Tryd.prog 67 #[.iface 73 (.pointer (some ⟨gw, 0, none⟩)), .pointer (some ⟨w.heap.size, 0, none⟩), .int .i64 0] (w.alloc (.cells #[.int .i64 (n : Int)] 3)) fun e w' => e = .returned (.tuple #[]) ∧ P 0 w') := ⟨by
    refine (winteger_any w0 gw ⟨w.heap.size, 0, none⟩ n 0 bs _ (h.after HB.out) (cell_of_one HC.out) (free_of_one HC.out) (.inr ⟨3, _, hgw, by decide, HC.out⟩) (by omega) (by omega) (by omega) hbs).mono ?_
    rintro e w' ⟨rfl, h1, h2⟩
    refine ⟨rfl, hP0 w' ?_ ((WStep.of_below HB.out).trans h2)⟩
    have e : encI 0 (n : Int) = enc n := by simp [encI]
    rw [e] at h1
    exact h1⟩
  have HCELL := Aside0.mk hcell
  have HE := Aside0.mk hE
  clear h hP0 hcell hE hgw HB HC
  have ha1 := assert_wr ⟨gw, 0, none⟩
  have ha2 := assert_ww ⟨gw, 0, none⟩
  go_enter Tryd.func70, Tryd.ntmps70
  go_wp2_with (fail)
  refine HCN.out.mono ?_
  rintro en w1 ⟨rfl, hp0⟩
  have HP0 := Aside0.mk hp0
  have hc1 := HCELL.out _ _ hp0
  clear hp0 hp
  go_wp2
  go_loopw [56] (fun a wr => ∃ (i : Nat), i ≤ n ∧ a = .int .i64 i ∧ Aside0 (P i wr)) (fun a _ => n - (intOf a).toNat)
  case atStart => exact ⟨0, Nat.zero_le _, rfl, HP0⟩
  case round =>
    clear HP0 hc1
    obtain ⟨i, hi, rfl, HP⟩ := hrel
    have hc2 := HCELL.out _ _ HP.out
    by_cases hlt : i < n
    · obtain ⟨ad, rfl, hcall⟩ := HE.out i wr hlt HP.out
      have HCL := Aside0.mk hcall
      clear hcall
      go_wp2_with (fail)
      refine HCL.out.mono ?_
      rintro en w2 ⟨rfl, hp2⟩
      have HP2 := Aside0.mk hp2
      clear hp2
      go_wp2
      go_roundw
      case rel => exact ⟨i + 1, by omega, by go_num, HP2⟩
      case measure => simp [intOf]; omega
    · go_wp2
      go_end0
      have e : i = n := by omega
      rw [← e]
      exact ⟨rfl, HP.out⟩

set_option maxHeartbeats 4000000 in
set_option maxRecDepth 100000 in
theorem wlist_71_72 (w0 : World) (gw : Nat) (p : Addr) (A : Option Addr) (n c : Nat) (v0 : Value) (bs : List Int) (w : World) (P : Nat → World → Prop) (h : Wt w0 gw w bs) (hbs : bs.length ≤ 1000000000000) (hn : n ≤ 1000000) (hp : w.cell? p = some (.slice A n c))
    (hP0 : ∀ w1, Wt w0 gw w1 (bs ++ enc n) → WStep gw w w1 → P 0 w1) (hcell : ∀ i wr, P i wr → wr.cell? p = some (.slice A n c))
    (hE : ∀ i wr, i < n → P i wr → ∃ ad, A = some ad ∧ Calls Tryd.prog 72 #[.pointer (some (ad.add i)), v0] wr fun e w' => e = .returned (.tuple #[]) ∧ P (i + 1) w') :
    Calls Tryd.prog 71 #[.iface 73 (.pointer (some ⟨gw, 0, none⟩)), .pointer (some p), .func (.func 72) #[] #[v0]] w fun e w' => e = .returned (.tuple #[]) ∧ P n w' := by
  have HB : Aside0 (Below w.heap.size w (w.alloc (.cells #[.int .i64 n] 3))) := ⟨below_alloc (Below.refl _ _) _⟩
  have HC : Aside0 ((w.alloc (.cells #[.int .i64 (n : Int)] 3)).heap[w.heap.size]? = some (.cells #[.int .i64 (n : Int)] 3 (0, 0))) := ⟨heap_alloc_new w _⟩
  have hgw : w.heap.size ≠ gw := by
    obtain ⟨v, hv, -⟩ := h.row
    have := blk_lt hv
    omega
  have HCN : Aside0 (Calls Tryd.prog 67 #[.iface 73 (.pointer (some ⟨gw, 0, none⟩)), .pointer (some ⟨w.heap.size, 0, none⟩), .int .i64 0] (w.alloc (.cells #[.int .i64 (n : Int)] 3)) fun e w' => e = .returned (.tuple #[]) ∧ P 0 w') := ⟨by
    refine (winteger_any w0 gw ⟨w.heap.size, 0, none⟩ n 0 bs _ (h.after HB.out) (cell_of_one HC.out) (free_of_one HC.out) (.inr ⟨3, _, hgw, by decide, HC.out⟩) (by omega) (by omega) (by omega) hbs).mono ?_
    rintro e w' ⟨rfl, h1, h2⟩
    refine ⟨rfl, hP0 w' ?_ ((WStep.of_below HB.out).trans h2)⟩
    have e : encI 0 (n : Int) = enc n := by simp [encI]
    rw [e] at h1
    exact h1⟩
  have HCELL := Aside0.mk hcell
  have HE := Aside0.mk hE
  clear h hP0 hcell hE hgw HB HC
  have ha1 := assert_wr ⟨gw, 0, none⟩
  have ha2 := assert_ww ⟨gw, 0, none⟩
  go_enter Tryd.func71, Tryd.ntmps71
  go_wp2_with (fail)
  refine HCN.out.mono ?_
  rintro en w1 ⟨rfl, hp0⟩
  have HP0 := Aside0.mk hp0
  have hc1 := HCELL.out _ _ hp0
  clear hp0 hp
  go_wp2
  go_loopw [56] (fun a wr => ∃ (i : Nat), i ≤ n ∧ a = .int .i64 i ∧ Aside0 (P i wr)) (fun a _ => n - (intOf a).toNat)
  case atStart => exact ⟨0, Nat.zero_le _, rfl, HP0⟩
  case round =>
    clear HP0 hc1
    obtain ⟨i, hi, rfl, HP⟩ := hrel
    have hc2 := HCELL.out _ _ HP.out
    by_cases hlt : i < n
    · obtain ⟨ad, rfl, hcall⟩ := HE.out i wr hlt HP.out
      have HCL := Aside0.mk hcall
      clear hcall
      go_wp2_with (fail)
      refine HCL.out.mono ?_
      rintro en w2 ⟨rfl, hp2⟩
      have HP2 := Aside0.mk hp2
      clear hp2
      go_wp2
      go_roundw
      case rel => exact ⟨i + 1, by omega, by go_num, HP2⟩
      case measure => simp [intOf]; omega
    · go_wp2
      go_end0
      have e : i = n := by omega
      rw [← e]
      exact ⟨rfl, HP.out⟩

set_option maxHeartbeats 4000000 in
set_option maxRecDepth 100000 in
theorem wlist_75_76 (w0 : World) (gw : Nat) (p : Addr) (A : Option Addr) (n c : Nat) (v0 v1 : Value) (bs : List Int) (w : World) (P : Nat → World → Prop) (h : Wt w0 gw w bs) (hbs : bs.length ≤ 1000000000000) (hn : n ≤ 1000000) (hp : w.cell? p = some (.slice A n c))
    (hP0 : ∀ w1, Wt w0 gw w1 (bs ++ enc n) → WStep gw w w1 → P 0 w1) (hcell : ∀ i wr, P i wr → wr.cell? p = some (.slice A n c))
    (hE : ∀ i wr, i < n → P i wr → ∃ ad, A = some ad ∧ Calls Tryd.prog 76 #[.pointer (some (ad.add i)), v0, v1] wr fun e w' => e = .returned (.tuple #[]) ∧ P (i + 1) w') :
    Calls Tryd.prog 75 #[.iface 73 (.pointer (some ⟨gw, 0, none⟩)), .pointer (some p), .func (.func 76) #[] #[v0, v1]] w fun e w' => e = .returned (.tuple #[]) ∧ P n w' := by
  have HB : Aside0 (Below w.heap.size w (w.alloc (.cells #[.int .i64 n] 3))) := ⟨below_alloc (Below.refl _ _) _⟩
  have HC : Aside0 ((w.alloc (.cells #[.int .i64 (n : Int)] 3)).heap[w.heap.size]? = some (.cells #[.int .i64 (n : Int)] 3 (0, 0))) := ⟨heap_alloc_new w _⟩
  have hgw : w.heap.size ≠ gw := by
    obtain ⟨v, hv, -⟩ := h.row
    have := blk_lt hv
    omega
  have HCN : Aside0 (Calls Tryd.prog 67 #[.iface 73 (.pointer (some ⟨gw, 0, none⟩)), .pointer (some ⟨w.heap.size, 0, none⟩), .int .i64 0] (w.alloc (.cells #[.int .i64 (n : Int)] 3)) fun e w' => e = .returned (.tuple #[]) ∧ P 0 w') := ⟨by
    refine (winteger_any w0 gw ⟨w.heap.size, 0, none⟩ n 0 bs _ (h.after HB.out) (cell_of_one HC.out) (free_of_one HC.out) (.inr ⟨3, _, hgw, by decide, HC.out⟩) (by omega) (by omega) (by omega) hbs).mono ?_
    rintro e w' ⟨rfl, h1, h2⟩
    refine ⟨rfl, hP0 w' ?_ ((WStep.of_below HB.out).trans h2)⟩
    have e : encI 0 (n : Int) = enc n := by simp [encI]
    rw [e] at h1
    exact h1⟩
  have HCELL := Aside0.mk hcell
  have HE := Aside0.mk hE
  clear h hP0 hcell hE hgw HB HC
  have ha1 := assert_wr ⟨gw, 0, none⟩
  have ha2 := assert_ww ⟨gw, 0, none⟩
  go_enter Tryd.func75, Tryd.ntmps75
  go_wp2_with (fail)
  refine HCN.out.mono ?_
  rintro en w1 ⟨rfl, hp0⟩
  have HP0 := Aside0.mk hp0
  have hc1 := HCELL.out _ _ hp0
  clear hp0 hp
  go_wp2
  go_loopw [56] (fun a wr => ∃ (i : Nat), i ≤ n ∧ a = .int .i64 i ∧ Aside0 (P i wr)) (fun a _ => n - (intOf a).toNat)
  case atStart => exact ⟨0, Nat.zero_le _, rfl, HP0⟩
  case round =>
    clear HP0 hc1
    obtain ⟨i, hi, rfl, HP⟩ := hrel
    have hc2 := HCELL.out _ _ HP.out
    by_cases hlt : i < n
    · obtain ⟨ad, rfl, hcall⟩ := HE.out i wr hlt HP.out
      have HCL := Aside0.mk hcall
      clear hcall
      go_wp2_with (fail)
      refine HCL.out.mono ?_
      rintro en w2 ⟨rfl, hp2⟩
      have HP2 := Aside0.mk hp2
      clear hp2
      go_wp2
      go_roundw
      case rel => exact ⟨i + 1, by omega, by go_num, HP2⟩
      case measure => simp [intOf]; omega
    · go_wp2
      go_end0
      have e : i = n := by omega
      rw [← e]
      exact ⟨rfl, HP.out⟩

set_option maxHeartbeats 4000000 in
set_option maxRecDepth 100000 in
theorem wlist_73_74 (w0 : World) (gw : Nat) (p : Addr) (A : Option Addr) (n c : Nat) (v0 v1 : Value) (bs : List Int) (w : World) (P : Nat → World → Prop) (h : Wt w0 gw w bs) (hbs : bs.length ≤ 1000000000000) (hn : n ≤ 1000000) (hp : w.cell? p = some (.slice A n c))
    (hP0 : ∀ w1, Wt w0 gw w1 (bs ++ enc n) → WStep gw w w1 → P 0 w1) (hcell : ∀ i wr, P i wr → wr.cell? p = some (.slice A n c))
    (hE : ∀ i wr, i < n → P i wr → ∃ ad, A = some ad ∧ Calls Tryd.prog 74 #[.pointer (some (ad.add i)), v0, v1] wr fun e w' => e = .returned (.tuple #[]) ∧ P (i + 1) w') :
    Calls Tryd.prog 73 #[.iface 73 (.pointer (some ⟨gw, 0, none⟩)), .pointer (some p), .func (.func 74) #[] #[v0, v1]] w fun e w' => e = .returned (.tuple #[]) ∧ P n w' := by
  have HB : Aside0 (Below w.heap.size w (w.alloc (.cells #[.int .i64 n] 3))) := ⟨below_alloc (Below.refl _ _) _⟩
  have HC : Aside0 ((w.alloc (.cells #[.int .i64 (n : Int)] 3)).heap[w.heap.size]? = some (.cells #[.int .i64 (n : Int)] 3 (0, 0))) := ⟨heap_alloc_new w _⟩
  have hgw : w.heap.size ≠ gw := by
    obtain ⟨v, hv, -⟩ := h.row
    have := blk_lt hv
    omega
  have HCN : Aside0 (Calls Tryd.prog 67 #[.iface 73 (.pointer (some ⟨gw, 0, none⟩)), .pointer (some ⟨w.heap.size, 0, none⟩), .int .i64 0] (w.alloc (.cells #[.int .i64 (n : Int)] 3)) fun e w' => e = .returned (.tuple #[]) ∧ P 0 w') := ⟨by
    refine (winteger_any w0 gw ⟨w.heap.size, 0, none⟩ n 0 bs _ (h.after HB.out) (cell_of_one HC.out) (free_of_one HC.out) (.inr ⟨3, _, hgw, by decide, HC.out⟩) (by omega) (by omega) (by omega) hbs).mono ?_
    rintro e w' ⟨rfl, h1, h2⟩
    refine ⟨rfl, hP0 w' ?_ ((WStep.of_below HB.out).trans h2)⟩
    have e : encI 0 (n : Int) = enc n := by simp [encI]
    rw [e] at h1
    exact h1⟩
  have HCELL := Aside0.mk hcell
  have HE := Aside0.mk hE
  clear h hP0 hcell hE hgw HB HC
  have ha1 := assert_wr ⟨gw, 0, none⟩
  have ha2 := assert_ww ⟨gw, 0, none⟩
  go_enter Tryd.func73, Tryd.ntmps73
  go_wp2_with (fail)
  refine HCN.out.mono ?_
  rintro en w1 ⟨rfl, hp0⟩
  have HP0 := Aside0.mk hp0
  have hc1 := HCELL.out _ _ hp0
  clear hp0 hp
  go_wp2
  go_loopw [56] (fun a wr => ∃ (i : Nat), i ≤ n ∧ a = .int .i64 i ∧ Aside0 (P i wr)) (fun a _ => n - (intOf a).toNat)
  case atStart => exact ⟨0, Nat.zero_le _, rfl, HP0⟩
  case round =>
    clear HP0 hc1
    obtain ⟨i, hi, rfl, HP⟩ := hrel
    have hc2 := HCELL.out _ _ HP.out
    by_cases hlt : i < n
    · obtain ⟨ad, rfl, hcall⟩ := HE.out i wr hlt HP.out
      have HCL := Aside0.mk hcall
      clear hcall
      go_wp2_with (fail)
      refine HCL.out.mono ?_
      rintro en w2 ⟨rfl, hp2⟩
      have HP2 := Aside0.mk hp2
      clear hp2
      go_wp2
      go_roundw
      case rel => exact ⟨i + 1, by omega, by go_num, HP2⟩
      case measure => simp [intOf]; omega
    · go_wp2
      go_end0
      have e : i = n := by omega
      rw [← e]
      exact ⟨rfl, HP.out⟩

set_option maxHeartbeats 4000000 in
set_option maxRecDepth 100000 in
theorem wlist_68_69 (w0 : World) (gw : Nat) (p : Addr) (A : Option Addr) (n c : Nat) (v0 v1 v2 : Value) (bs : List Int) (w : World) (P : Nat → World → Prop) (h : Wt w0 gw w bs) (hbs : bs.length ≤ 1000000000000) (hn : n ≤ 1000000) (hp : w.cell? p = some (.slice A n c))
    (hP0 : ∀ w1, Wt w0 gw w1 (bs ++ enc n) → WStep gw w w1 → P 0 w1) (hcell : ∀ i wr, P i wr → wr.cell? p = some (.slice A n c))
    (hE : ∀ i wr, i < n → P i wr → ∃ ad, A = some ad ∧ Calls Tryd.prog 69 #[.pointer (some (ad.add (i * 5))), v0, v1, v2] wr fun e w' => e = .returned (.tuple #[]) ∧ P (i + 1) w') :
    Calls Tryd.prog 68 #[.iface 73 (.pointer (some ⟨gw, 0, none⟩)), .pointer (some p), .func (.func 69) #[] #[v0, v1, v2]] w fun e w' => e = .returned (.tuple #[]) ∧ P n w' := by
  have HB : Aside0 (Below w.heap.size w (w.alloc (.cells #[.int .i64 n] 3))) := ⟨below_alloc (Below.refl _ _) _⟩
  have HC : Aside0 ((w.alloc (.cells #[.int .i64 (n : Int)] 3)).heap[w.heap.size]? = some (.cells #[.int .i64 (n : Int)] 3 (0, 0))) := ⟨heap_alloc_new w _⟩
  have hgw : w.heap.size ≠ gw := by
    obtain ⟨v, hv, -⟩ := h.row
    have := blk_lt hv
    omega
  have HCN : Aside0 (Calls Tryd.prog 67 #[.iface 73 (.pointer (some ⟨gw, 0, none⟩)), .pointer (some ⟨w.heap.size, 0, none⟩), .int .i64 0] (w.alloc (.cells #[.int .i64 (n : Int)] 3)) fun e w' => e = .returned (.tuple #[]) ∧ P 0 w') := ⟨by
    refine (winteger_any w0 gw ⟨w.heap.size, 0, none⟩ n 0 bs _ (h.after HB.out) (cell_of_one HC.out) (free_of_one HC.out) (.inr ⟨3, _, hgw, by decide, HC.out⟩) (by omega) (by omega) (by omega) hbs).mono ?_
    rintro e w' ⟨rfl, h1, h2⟩
    refine ⟨rfl, hP0 w' ?_ ((WStep.of_below HB.out).trans h2)⟩
    have e : encI 0 (n : Int) = enc n := by simp [encI]
    rw [e] at h1
    exact h1⟩
  have HCELL := Aside0.mk hcell
  have HE := Aside0.mk hE
  clear h hP0 hcell hE hgw HB HC
  have ha1 := assert_wr ⟨gw, 0, none⟩
  have ha2 := assert_ww ⟨gw, 0, none⟩
  go_enter Tryd.func68, Tryd.ntmps68
  go_wp2_with (fail)
  refine HCN.out.mono ?_
  rintro en w1 ⟨rfl, hp0⟩
  have HP0 := Aside0.mk hp0
  have hc1 := HCELL.out _ _ hp0
  clear hp0 hp
  go_wp2
  go_loopw [56] (fun a wr => ∃ (i : Nat), i ≤ n ∧ a = .int .i64 i ∧ Aside0 (P i wr)) (fun a _ => n - (intOf a).toNat)
  case atStart => exact ⟨0, Nat.zero_le _, rfl, HP0⟩
  case round =>
    clear HP0 hc1
    obtain ⟨i, hi, rfl, HP⟩ := hrel
    have hc2 := HCELL.out _ _ HP.out
    by_cases hlt : i < n
    · obtain ⟨ad, rfl, hcall⟩ := HE.out i wr hlt HP.out
      have HCL := Aside0.mk hcall
      clear hcall
      go_wp2_with (fail)
      refine HCL.out.mono ?_
      rintro en w2 ⟨rfl, hp2⟩
      have HP2 := Aside0.mk hp2
      clear hp2
      go_wp2
      go_roundw
      case rel => exact ⟨i + 1, by omega, by go_num, HP2⟩
      case measure => simp [intOf]; omega
    · go_wp2
      go_end0
      have e : i = n := by omega
      rw [← e]
      exact ⟨rfl, HP.out⟩

end Go.Proofs.YtihjjkoddphmiaaDoor.img

namespace Go.Proofs.YtihjjkoddphmiaaDoor.img
open Go.RowKit Go.Proofs.YtihjjkoddphmiaaDoorW.PrintWords Go.Proofs.YtihjjkoddphmiaaDoorW.PrintMore Go.Proofs.YtihjjkoddphmiaaDoor.PImageRound
set_option linter.unusedVariables false
set_option linter.unusedSimpArgs false

end Go.Proofs.YtihjjkoddphmiaaDoor.img

namespace Go.Proofs.YtihjjkoddphmiaaDoor.img
open Go.RowKit Go.Proofs.YtihjjkoddphmiaaDoorW.PrintWords Go.Proofs.YtihjjkoddphmiaaDoorW.PrintMore Go.Proofs.YtihjjkoddphmiaaDoor.PImageRound
set_option linter.unusedVariables false
set_option linter.unusedSimpArgs false

section
variable {σ α : Type}
/-- The list's loop with a reader: where it stands. -/
structure RL (w0 w : World) (gr gp off t c : Nat) (B : Option Addr) (bs : List Int) (cs : Array Value) (d : Kd α) (e : Nat) (I : σ → World → Prop) (D : Nat → Prop) (xs : List α) (s : σ) (q : Nat) (v : Value) (wr : World) : Prop where
  rr : Rr w0 gr B c bs q wr
  inv : I s wr
  kept : Kept w wr (fun k => k = gr ∨ k = gp ∨ D k)
  blk : wr.heap[gp]? = some (.cells (cs.setIfInBounds off v) t (0, 0))
  row : d.R e wr w.heap.size (fun _ => True) v xs
/-- What is said of the elder blocks but the list's and the reader's. -/
def Firm (w : World) (gr gp : Nat) (I : σ → World → Prop) : Prop := ∀ s w1 w2, I s w1 → (∀ k, k < w.heap.size → k ≠ gp → k ≠ gr → w2.heap[k]? = w1.heap[k]?) → I s w2
/-- Behind one element's call. -/
structure RM (w0 w wr : World) (gr gp off t c : Nat) (B : Option Addr) (bs : List Int) (cs : Array Value) (d : Kd α) (e : Nat) (I : σ → World → Prop) (D : Nat → Prop) (xs : List α) (x : α) (cx : Array Value) (s : σ) (q : Nat) (v : Value) (w2 : World) : Prop where
  rr : Rr w0 gr B c bs q w2
  inv : I s w2
  kept : Kept w w2 (fun k => k = gr ∨ k = gp ∨ D k)
  blk : w2.heap[gp]? = some (.cells (cs.setIfInBounds off v) t (0, 0))
  row : d.R e w2 w.heap.size (fun _ => True) v xs
  new : w2.heap[wr.heap.size]? = some (.cells cx e (0, 0))
  el : d.M w2 w.heap.size (fun k => wr.heap.size ≤ k) x cx.toList
  own : ∀ k, v.ownBlock = some k → w.heap.size ≤ k ∧ k < wr.heap.size
variable {w0 w wr : World} {gr gp off t c : Nat} {B : Option Addr} {bs : List Int} {cs : Array Value} {d : Kd α} {e : Nat} {I : σ → World → Prop} {D : Nat → Prop} {xs : List α} {s s2 : σ} {q p : Nat} {v : Value}
theorem RL.bd (h : RL w0 w gr gp off t c B bs cs d e I D xs s q v wr) : Bd w0 w gr gp t cs.size D wr := ⟨h.rr.bel, h.kept, _, h.blk, by simp⟩
theorem own_of_R (h : d.R e wr w.heap.size (fun _ => True) v xs) : ∀ k, v.ownBlock = some k → w.heap.size ≤ k ∧ k < wr.heap.size := by
  intro k hk
  obtain ⟨_, inner, ho, _⟩ := h
  exact ⟨own_base ho k hk, own_lt ho k hk⟩
theorem RM.next {x : α} {cx : Array Value} {w2 W w1 : World} {v1 : Value} (h : RM w0 w wr gr gp off t c B bs cs d e I D xs x cx s2 p v w2) (hgr : gr < w.heap.size) (hgp : gp < w.heap.size) (hne : gp ≠ gr) (h0 : w0.heap.size ≤ gp) (hF : Firm w gr gp I)
    (hW : Below w2.heap.size w2 W) (hg : W.grownBy w1 v.ownBlock) (ho : d.R e w1 w.heap.size (fun _ => True) v1 (xs ++ [x])) (hty : ∀ q, q ∈ e :: d.E → q ≠ t) :
    RL w0 w gr gp off t c B bs cs d e I D (xs ++ [x]) s2 p v1 (w1.setCell ⟨gp, off, none⟩ v1) := by
  have hro : ∀ k, k < w.heap.size → some k ≠ v.ownBlock := fun k hk e => by have := (h.own k e.symm).1; omega
  have hk : Kept w w1 (fun k => k = gr ∨ k = gp ∨ D k) := Kept.of_grown hg (h.kept.below hW) (fun k hk => .inr (h.own k hk).1)
  have hrr : Rr w0 gr B c bs p w1 := ⟨?_, h.rr.old, blk_grown (blk_below h.rr.blk hW) hg (hro _ hgr), h.rr.row, h.rr.le⟩
  have hb : w1.heap[gp]? = some (.cells (cs.setIfInBounds off v) t (0, 0)) := blk_grown (blk_below h.blk hW) hg (hro _ hgp)
  refine ⟨hrr.other hne h0 _, hF _ _ _ h.inv ?_, hk.setCell (.inl (.inr (.inl rfl))) _, ?_, Kd.R_set ho hb hty _ _⟩
  · intro k hk1 hk2 hk3
    rw [Below.heap_setCell _ _ _ _ hk2, hg.block k (Nat.lt_of_lt_of_le hk1 (Nat.le_trans h.kept.1 hW.size)) (hro k hk1), hW.block k (Nat.lt_of_lt_of_le hk1 h.kept.1)]
  · have := blk_set hb off v1
    rw [Array.setIfInBounds_setIfInBounds] at this
    exact this
  · have hw0 : w0.heap.size ≤ w.heap.size := Nat.le_trans h0 (Nat.le_of_lt hgp)
    refine pw_below_grown (below_step h.rr.bel hW) v.ownBlock (below_step h.rr.bel hW).size hg (fun k hk => by have := (h.own k hk).1; omega)
end

end Go.Proofs.YtihjjkoddphmiaaDoor.img

namespace Go.Proofs.YtihjjkoddphmiaaDoor.img
open Go.RowKit Go.Proofs.YtihjjkoddphmiaaDoorW.PrintWords Go.Proofs.YtihjjkoddphmiaaDoorW.PrintMore Go.Proofs.YtihjjkoddphmiaaDoor.PImageRound
set_option linter.unusedVariables false
set_option linter.unusedSimpArgs false

section
variable (w0 : World) (gr : Nat) (B : Option Addr) (c : Nat) (bs : List Int) (base : Nat) (q r : Addr) (hbb : Bytes bs) (hbl : bs.length ≤ 1000000000) (hgr : gr < base) (h0 : w0.heap.size ≤ base) (hq : q.block < base) (hqr : q.block ≠ gr) (hr : r.block < base) (hrr : r.block ≠ gr)
include hbb hbl hgr h0 hq hqr hr hrr
end
end Go.Proofs.YtihjjkoddphmiaaDoor.img

namespace Go.Proofs.YtihjjkoddphmiaaDoor.img
open Go.RowKit Go.Proofs.YtihjjkoddphmiaaDoorW.PrintWords Go.Proofs.YtihjjkoddphmiaaDoorW.PrintMore Go.Proofs.YtihjjkoddphmiaaDoor.PImageRound
set_option linter.unusedVariables false
set_option linter.unusedSimpArgs false

/-- A reader's walk over a struct's fields (block gx): where it stands. -/
structure RS (w0 w : World) (gr gx tx c : Nat) (B : Option Addr) (bs : List Int) (D : Nat → Prop) (q : Nat) (cx : Array Value) (wi : World) : Prop where
  rr : Rr w0 gr B c bs q wi
  kept : Kept w wi (fun k => k = gr ∨ k = gx ∨ D k)
  blk : wi.heap[gx]? = some (.cells cx tx (0, 0))
section
variable {w0 w wi wj : World} {gr gx tx c q q' : Nat} {B : Option Addr} {bs : List Int} {D S : Nat → Prop} {cx cx' : Array Value}
theorem RS.below (h : RS w0 w gr gx tx c B bs D q cx wi) (hb : Below wi.heap.size wi wj) : RS w0 w gr gx tx c B bs D q cx wj := ⟨h.rr.below hb, h.kept.below hb, blk_below h.blk hb⟩
theorem RS.step (h : RS w0 w gr gx tx c B bs D q cx wi) (hr : Rr w0 gr B c bs q' wj) (hk : Kept wi wj S) (hS : ∀ k, S k → (k = gr ∨ k = gx ∨ D k) ∨ w.heap.size ≤ k) (hb : wj.heap[gx]? = some (.cells cx' tx (0, 0))) : RS w0 w gr gx tx c B bs D q' cx' wj := ⟨hr, h.kept.then_ hk hS, hb⟩
theorem RS.cell (h : RS w0 w gr gx tx c B bs D q cx wi) {a : Addr} {v : Value} (hc : w.cell? a = some v) (h1 : a.block ≠ gr) (h2 : a.block ≠ gx) (h3 : ¬ D a.block) : wi.cell? a = some v := cell_kept hc h.kept (fun x => x.elim h1 (fun x => x.elim h2 h3))
theorem RS.old (h : RS w0 w gr gx tx c B bs D q cx wi) {k : Nat} {o : Obj} (hc : w.heap[k]? = some o) (h1 : k ≠ gr) (h2 : k ≠ gx) (h3 : ¬ D k) : wi.heap[k]? = some o := blk_kept hc h.kept (fun x => x.elim h1 (fun x => x.elim h2 h3))
theorem RS.set (h : RS w0 w gr gx tx c B bs D q cx wi) (hne : gx ≠ gr) (h0 : w0.heap.size ≤ gx) (j : Nat) (u : Value) (he : cx.setIfInBounds j u = cx') : RS w0 w gr gx tx c B bs D q cx' (wi.setCell ⟨gx, j, none⟩ u) :=
  ⟨h.rr.other hne h0 _, h.kept.setCell (.inl (.inr (.inl rfl))) _, blk_put h.blk j u he⟩
theorem RS.far (h : RS w0 w gr gx tx c B bs D q cx wi) {g : Nat} (hg : D g) (hgr : g ≠ gr) (hgx : g ≠ gx) (h0 : w0.heap.size ≤ g) (j : Nat) (u : Value) : RS w0 w gr gx tx c B bs D q cx (wi.setCell ⟨g, j, none⟩ u) :=
  ⟨h.rr.other hgr h0 _, h.kept.setCell (.inl (.inr (.inr hg))) _, blk_far h.blk (fun e => hgx e.symm) _⟩
end

section
variable (w0 : World) (gr gl : Nat) (B : Option Addr) (c : Nat) (bs : List Int) (base : Nat) (q r : Addr) (hbb : Bytes bs) (hbl : bs.length ≤ 1000000000) (hgr : gr < base) (h0 : w0.heap.size ≤ base) (hq : q.block < base) (hqr : q.block ≠ gr) (hr : r.block < base) (hrr : r.block ≠ gr) (hgl : gl < base) (hglr : gl ≠ gr) (hql : q.block ≠ gl) (hrl : r.block ≠ gl) (hgl0 : w0.heap.size ≤ gl)
include hbb hbl hgr h0 hq hqr hr hrr hgl hglr hql hrl hgl0
end
end Go.Proofs.YtihjjkoddphmiaaDoor.img
