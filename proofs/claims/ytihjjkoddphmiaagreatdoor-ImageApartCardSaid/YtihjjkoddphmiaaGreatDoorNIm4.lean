import Derived.Test.YtihjjkoddphmiaaGreatDoorNIm2
import Derived.StillTailTactics
import Derived.Deep.RegionHeld3
import Derived.Test.YtihjjkoddphmiaaGreatDoorNIm1
import Derived.ArgAppend
import Derived.Lib.SlBytesConst
import Derived.Test.YtihjjkoddphmiaaGreatDoorNIm3
namespace Go.Proofs.YtihjjkoddphmiaaGreatDoor.img
open Go.RowKit Go.Proofs.YtihjjkoddphmiaaGreatDoorW.PrintWords Go.Proofs.YtihjjkoddphmiaaGreatDoorW.PrintMore Go.Proofs.YtihjjkoddphmiaaGreatDoor.PImageApart
set_option linter.unusedVariables false
set_option linter.unusedSimpArgs false

set_option maxHeartbeats 4000000 in
set_option maxRecDepth 100000 in
theorem wplain_any (w0 : World) (gw : Nat) (p q : Addr) (n : Int) (bs : List Int) (w : World) (h : Wt w0 gw w bs) (hc : w.cell? q = some (.iface 95 (.pointer (some ⟨gw, 0, none⟩)))) (hp : w.cell? p = some (.int .i64 n)) (hf : w.frozen? p = false) (hsf : Safe w0 gw w p) (h0 : 0 ≤ n) (h1 : n ≤ 4611686018427387905) (hbs : bs.length ≤ 1000000000000) :
  Calls Tryz.prog 58 #[.pointer (some p), .pointer (some q)] w fun e w' => e = .returned (.tuple #[]) ∧ Wt w0 gw w' (bs ++ encI 0 n) ∧ WStep gw w w' := by
 have HC := Aside0.mk (winteger_any w0 gw p n 0 bs w h hp hf hsf (by omega) (by omega) (by omega) hbs)
 clear h hp hf hsf
 go_enter Tryz.func58, Tryz.ntmps58
 go_wp2_with (fail)
 refine HC.out.mono ?_
 rintro en w2 ⟨rfl, h2, h3⟩
 have H2 := Aside0.mk h2
 have H3 := Aside0.mk h3
 clear h2 h3
 go_wp2
 go_end0
 exact ⟨rfl, H2.out, H3.out⟩

set_option maxHeartbeats 4000000 in
set_option maxRecDepth 100000 in
theorem whandle_any (w0 : World) (gw : Nat) (p q : Addr) (n : Int) (bs : List Int) (w : World) (h : Wt w0 gw w bs) (hc : w.cell? q = some (.iface 95 (.pointer (some ⟨gw, 0, none⟩)))) (hp : w.cell? p = some (.int .i64 n)) (hf : w.frozen? p = false) (hsf : Safe w0 gw w p) (h0 : 0 ≤ n + 1) (h1 : n + 1 ≤ 4611686018427387905) (hbs : bs.length ≤ 1000000000000) :
  Calls Tryz.prog 69 #[.pointer (some p), .pointer (some q)] w fun e w' => e = .returned (.tuple #[]) ∧ Wt w0 gw w' (bs ++ encI 1 n) ∧ WStep gw w w' := by
 have HC := Aside0.mk (winteger_any w0 gw p n 1 bs w h hp hf hsf (by omega) (by omega) (by omega) hbs)
 clear h hp hf hsf
 go_enter Tryz.func69, Tryz.ntmps69
 go_wp2_with (fail)
 refine HC.out.mono ?_
 rintro en w2 ⟨rfl, h2, h3⟩
 have H2 := Aside0.mk h2
 have H3 := Aside0.mk h3
 clear h2 h3
 go_wp2
 go_end0
 exact ⟨rfl, H2.out, H3.out⟩

set_option maxHeartbeats 4000000 in
set_option maxRecDepth 100000 in
theorem wraw_any (w0 : World) (gw : Nat) (p q : Addr) (n : Int) (bs : List Int) (w : World) (h : Wt w0 gw w bs) (hc : w.cell? q = some (.iface 95 (.pointer (some ⟨gw, 0, none⟩)))) (hp : w.cell? p = some (.int .u64 n)) (h0 : 0 ≤ n) (h1 : n < 18446744073709551616) (hbs : bs.length ≤ 1000000000000) :
  Calls Tryz.prog 64 #[.pointer (some p), .pointer (some q)] w fun e w' => e = .returned (.tuple #[]) ∧ Wt w0 gw w' (bs ++ encI 0 n) ∧ WStep gw w w' := by
 have HC : Aside0 (Calls Tryz.prog 154 #[.pointer (some ⟨gw, 0, none⟩), .pointer (some p), .int .u64 18446744073709551615] w fun e w' => e = .returned (.tuple #[]) ∧ Wt w0 gw w' (bs ++ encI 0 n) ∧ WStep gw w w') := ⟨by
  have := wnumber_any w0 gw p n.toNat 18446744073709551615 bs w h (by rw [hp]; congr 2; omega) (by omega) hbs
  have e : encI 0 n = enc n.toNat := by simp [encI]
  rw [e]
  exact this⟩
 have hmw := method_w ⟨gw, 0, none⟩
 clear h hp
 go_enter Tryz.func64, Tryz.ntmps64
 go_wp2_with (fail)
 refine HC.out.mono ?_
 rintro en w2 ⟨rfl, h2, h3⟩
 have H2 := Aside0.mk h2
 have H3 := Aside0.mk h3
 clear h2 h3
 go_wp2
 go_end0
 exact ⟨rfl, H2.out, H3.out⟩
end Go.Proofs.YtihjjkoddphmiaaGreatDoor.img

namespace Go.Proofs.YtihjjkoddphmiaaGreatDoor.img
open Go.RowKit Go.Proofs.YtihjjkoddphmiaaGreatDoorW.PrintWords Go.Proofs.YtihjjkoddphmiaaGreatDoorW.PrintMore Go.Proofs.YtihjjkoddphmiaaGreatDoor.PImageApart
set_option linter.unusedVariables false
set_option linter.unusedSimpArgs false

/-- The row's cells may be written. -/
def NF (w : World) (A : Option Addr) (m : Nat) : Prop := ∀ ad, A = some ad → ∀ j, j < m → w.frozen? (ad.add j) = false
theorem take_flat {α : Type} (E : α → List Int) (l : List α) (i : Nat) (z : α) (h : i < l.length) : (l.take (i + 1)).flatMap E = (l.take i).flatMap E ++ E (l.getD i z) := by
 rw [List.take_add_one, List.getElem?_eq_getElem h, List.flatMap_append, List.getD_eq_getElem?_getD, List.getElem?_eq_getElem h]
 simp
theorem getD_mem {α : Type} {l : List α} {i : Nat} {z : α} (h : i < l.length) : l.getD i z ∈ l := by
 rw [List.getD_eq_getElem?_getD, List.getElem?_eq_getElem h]
 exact List.getElem_mem h
theorem encI_ten {more n : Int} (h : n + more < 18446744073709551616) : (encI more n).length ≤ 10 := enc_ten (by omega)
theorem flat_len {α : Type} {E : α → List Int} {k : Nat} : ∀ {l : List α}, (∀ x ∈ l, (E x).length ≤ k) → (l.flatMap E).length ≤ l.length * k
 | [], _ => by simp
 | a :: l, h => by
  have h1 := h a (by simp)
  have h2 := flat_len (l := l) (fun x hx => h x (by simp [hx]))
  simp only [List.flatMap_cons, List.length_append, List.length_cons, Nat.add_mul]
  omega
theorem take_mem {α : Type} {l : List α} {i : Nat} {x : α} (h : x ∈ l.take i) : x ∈ l := List.mem_of_mem_take h

theorem wl_70_66 (w0 : World) (gw : Nat) (p q : Addr) (A : Option Addr) (l : List Int) (c : Nat) (bs : List Int) (w : World) (h : Wt w0 gw w bs) (hbs : bs.length ≤ 900000000000) (hn : l.length ≤ 1000000) (hp : w.cell? p = some (.slice A l.length c)) (hsp : Safe w0 gw w p)
  (hq : w.cell? q = some (.iface 95 (.pointer (some ⟨gw, 0, none⟩)))) (hsq : Safe w0 gw w q) (hC : Kd.C (Kd.int .i64) w0 A l.length l) (hnf : NF w0 A l.length) (hb : ∀ x ∈ l, 0 ≤ x + 0 ∧ x + 0 ≤ 4611686018427387905) :
  Calls Tryz.prog 62 #[.iface 95 (.pointer (some ⟨gw, 0, none⟩)), .pointer (some p), .func (.func 58) #[] #[.pointer (some q)]] w fun e w' => e = .returned (.tuple #[]) ∧ Wt w0 gw w' (bs ++ encL (encI 0) l) ∧ WStep gw w w' := by
 have hel : ∀ x ∈ l, (encI 0 x).length ≤ 10 := fun x hx => encI_ten (by have := hb x hx; omega)
 refine (wlist_70_66 w0 gw p A l.length c (.pointer (some q)) bs w (fun i wr => Wt w0 gw wr (bs ++ enc l.length ++ (l.take i).flatMap (encI 0)) ∧ WStep gw w wr) h (by omega) hn hp ?_ ?_ ?_).mono ?_
 ·intro w1 h1 h2
  exact ⟨by simpa using h1, h2⟩
 ·intro i wr hP
  rw [cell_block (hsp.heap h.bel hP.1.bel hP.2)]
  exact hp
 ·intro i wr hi hP
  obtain ⟨ad, rfl, hcell⟩ := Kd.at_int hC (i : Int) (by omega) (by omega)
  have hrd : rd l (i : Int) = l.getD i 0 := by simp [rd]
  have hmem : l.getD i 0 ∈ l := getD_mem hi
  have hx := hb _ hmem
  rw [hrd] at hcell
  simp only [Int.toNat_natCast] at hcell
  have htf := take_flat (encI 0) l i 0 hi
  generalize l.getD i 0 = x at *
  have hblk : (ad.add i).block < w0.heap.size := World.block_lt_of_cell? _ _ hcell
  have hcell2 : wr.cell? (ad.add i) = some (.int .i64 x) := by rw [cell_block (w := w0) (hP.1.bel.block _ hblk)]; exact hcell
  have hq2 : wr.cell? q = some (.iface 95 (.pointer (some ⟨gw, 0, none⟩))) := by rw [cell_block (hsq.heap h.bel hP.1.bel hP.2)]; exact hq
  have hfr : wr.frozen? (ad.add i) = false := by rw [frozen_block (w := w0) (hP.1.bel.block _ hblk)]; exact hnf ad rfl i hi
  have hlen : (bs ++ enc l.length ++ (l.take i).flatMap (encI 0)).length ≤ 1000000000000 := by
   have h1 := flat_len (l := l.take i) (E := encI 0) (k := 10) (fun y hy => hel y (take_mem hy))
   have h2 : (l.take i).length ≤ l.length := List.length_take_le' _ _
   have h3 := enc_ten (n := l.length) (by omega)
   simp only [List.length_append]
   omega
  refine ⟨ad, rfl, (wplain_any w0 gw (ad.add i) q x _ wr hP.1 hq2 hcell2 hfr (.inl hblk) (by omega) (by omega) hlen).mono ?_⟩
  rintro e w' ⟨rfl, h1, h2⟩
  refine ⟨rfl, ?_, hP.2.trans h2⟩
  rw [htf, ← List.append_assoc]
  exact h1
 ·rintro e w' ⟨rfl, h1, h2⟩
  refine ⟨rfl, ?_, h2⟩
  rw [List.take_length] at h1
  unfold encL
  rw [← List.append_assoc]
  exact h1

theorem wl_70_77 (w0 : World) (gw : Nat) (p q : Addr) (A : Option Addr) (l : List Int) (c : Nat) (bs : List Int) (w : World) (h : Wt w0 gw w bs) (hbs : bs.length ≤ 900000000000) (hn : l.length ≤ 1000000) (hp : w.cell? p = some (.slice A l.length c)) (hsp : Safe w0 gw w p)
  (hq : w.cell? q = some (.iface 95 (.pointer (some ⟨gw, 0, none⟩)))) (hsq : Safe w0 gw w q) (hC : Kd.C (Kd.int .i64) w0 A l.length l) (hnf : NF w0 A l.length) (hb : ∀ x ∈ l, 0 ≤ x + 1 ∧ x + 1 ≤ 4611686018427387905) :
  Calls Tryz.prog 62 #[.iface 95 (.pointer (some ⟨gw, 0, none⟩)), .pointer (some p), .func (.func 69) #[] #[.pointer (some q)]] w fun e w' => e = .returned (.tuple #[]) ∧ Wt w0 gw w' (bs ++ encL (encI 1) l) ∧ WStep gw w w' := by
 have hel : ∀ x ∈ l, (encI 1 x).length ≤ 10 := fun x hx => encI_ten (by have := hb x hx; omega)
 refine (wlist_70_77 w0 gw p A l.length c (.pointer (some q)) bs w (fun i wr => Wt w0 gw wr (bs ++ enc l.length ++ (l.take i).flatMap (encI 1)) ∧ WStep gw w wr) h (by omega) hn hp ?_ ?_ ?_).mono ?_
 ·intro w1 h1 h2
  exact ⟨by simpa using h1, h2⟩
 ·intro i wr hP
  rw [cell_block (hsp.heap h.bel hP.1.bel hP.2)]
  exact hp
 ·intro i wr hi hP
  obtain ⟨ad, rfl, hcell⟩ := Kd.at_int hC (i : Int) (by omega) (by omega)
  have hrd : rd l (i : Int) = l.getD i 0 := by simp [rd]
  have hmem : l.getD i 0 ∈ l := getD_mem hi
  have hx := hb _ hmem
  rw [hrd] at hcell
  simp only [Int.toNat_natCast] at hcell
  have htf := take_flat (encI 1) l i 0 hi
  generalize l.getD i 0 = x at *
  have hblk : (ad.add i).block < w0.heap.size := World.block_lt_of_cell? _ _ hcell
  have hcell2 : wr.cell? (ad.add i) = some (.int .i64 x) := by rw [cell_block (w := w0) (hP.1.bel.block _ hblk)]; exact hcell
  have hq2 : wr.cell? q = some (.iface 95 (.pointer (some ⟨gw, 0, none⟩))) := by rw [cell_block (hsq.heap h.bel hP.1.bel hP.2)]; exact hq
  have hfr : wr.frozen? (ad.add i) = false := by rw [frozen_block (w := w0) (hP.1.bel.block _ hblk)]; exact hnf ad rfl i hi
  have hlen : (bs ++ enc l.length ++ (l.take i).flatMap (encI 1)).length ≤ 1000000000000 := by
   have h1 := flat_len (l := l.take i) (E := encI 1) (k := 10) (fun y hy => hel y (take_mem hy))
   have h2 : (l.take i).length ≤ l.length := List.length_take_le' _ _
   have h3 := enc_ten (n := l.length) (by omega)
   simp only [List.length_append]
   omega
  refine ⟨ad, rfl, (whandle_any w0 gw (ad.add i) q x _ wr hP.1 hq2 hcell2 hfr (.inl hblk) (by omega) (by omega) hlen).mono ?_⟩
  rintro e w' ⟨rfl, h1, h2⟩
  refine ⟨rfl, ?_, hP.2.trans h2⟩
  rw [htf, ← List.append_assoc]
  exact h1
 ·rintro e w' ⟨rfl, h1, h2⟩
  refine ⟨rfl, ?_, h2⟩
  rw [List.take_length] at h1
  unfold encL
  rw [← List.append_assoc]
  exact h1

theorem wl_71_72 (w0 : World) (gw : Nat) (p q : Addr) (A : Option Addr) (l : List Int) (c : Nat) (bs : List Int) (w : World) (h : Wt w0 gw w bs) (hbs : bs.length ≤ 900000000000) (hn : l.length ≤ 1000000) (hp : w.cell? p = some (.slice A l.length c)) (hsp : Safe w0 gw w p)
  (hq : w.cell? q = some (.iface 95 (.pointer (some ⟨gw, 0, none⟩)))) (hsq : Safe w0 gw w q) (hC : Kd.C (Kd.int .u64) w0 A l.length l) (hb : ∀ x ∈ l, 0 ≤ x ∧ x < 18446744073709551616) :
  Calls Tryz.prog 63 #[.iface 95 (.pointer (some ⟨gw, 0, none⟩)), .pointer (some p), .func (.func 64) #[] #[.pointer (some q)]] w fun e w' => e = .returned (.tuple #[]) ∧ Wt w0 gw w' (bs ++ encL (encI 0) l) ∧ WStep gw w w' := by
 have hel : ∀ x ∈ l, (encI 0 x).length ≤ 10 := fun x hx => encI_ten (by have := hb x hx; omega)
 refine (wlist_71_72 w0 gw p A l.length c (.pointer (some q)) bs w (fun i wr => Wt w0 gw wr (bs ++ enc l.length ++ (l.take i).flatMap (encI 0)) ∧ WStep gw w wr) h (by omega) hn hp ?_ ?_ ?_).mono ?_
 ·intro w1 h1 h2
  exact ⟨by simpa using h1, h2⟩
 ·intro i wr hP
  rw [cell_block (hsp.heap h.bel hP.1.bel hP.2)]
  exact hp
 ·intro i wr hi hP
  obtain ⟨ad, rfl, hcell⟩ := Kd.at_int hC (i : Int) (by omega) (by omega)
  have hrd : rd l (i : Int) = l.getD i 0 := by simp [rd]
  have hmem : l.getD i 0 ∈ l := getD_mem hi
  have hx := hb _ hmem
  rw [hrd] at hcell
  simp only [Int.toNat_natCast] at hcell
  have htf := take_flat (encI 0) l i 0 hi
  generalize l.getD i 0 = x at *
  have hblk : (ad.add i).block < w0.heap.size := World.block_lt_of_cell? _ _ hcell
  have hcell2 : wr.cell? (ad.add i) = some (.int .u64 x) := by rw [cell_block (w := w0) (hP.1.bel.block _ hblk)]; exact hcell
  have hq2 : wr.cell? q = some (.iface 95 (.pointer (some ⟨gw, 0, none⟩))) := by rw [cell_block (hsq.heap h.bel hP.1.bel hP.2)]; exact hq
  have hlen : (bs ++ enc l.length ++ (l.take i).flatMap (encI 0)).length ≤ 1000000000000 := by
   have h1 := flat_len (l := l.take i) (E := encI 0) (k := 10) (fun y hy => hel y (take_mem hy))
   have h2 : (l.take i).length ≤ l.length := List.length_take_le' _ _
   have h3 := enc_ten (n := l.length) (by omega)
   simp only [List.length_append]
   omega
  refine ⟨ad, rfl, (wraw_any w0 gw (ad.add i) q x _ wr hP.1 hq2 hcell2 hx.1 hx.2 hlen).mono ?_⟩
  rintro e w' ⟨rfl, h1, h2⟩
  refine ⟨rfl, ?_, hP.2.trans h2⟩
  rw [htf, ← List.append_assoc]
  exact h1
 ·rintro e w' ⟨rfl, h1, h2⟩
  refine ⟨rfl, ?_, h2⟩
  rw [List.take_length] at h1
  unfold encL
  rw [← List.append_assoc]
  exact h1

end Go.Proofs.YtihjjkoddphmiaaGreatDoor.img

namespace Go.Proofs.YtihjjkoddphmiaaGreatDoor.img
open Go.RowKit Go.Proofs.YtihjjkoddphmiaaGreatDoorW.PrintWords Go.Proofs.YtihjjkoddphmiaaGreatDoorW.PrintMore Go.Proofs.YtihjjkoddphmiaaGreatDoor.PImageApart
set_option linter.unusedVariables false
set_option linter.unusedSimpArgs false

set_option maxHeartbeats 4000000 in
set_option maxRecDepth 100000 in
theorem wf_any (w0 : World) (gw : Nat) (p q r : Addr) (A : Option Addr) (l : List Int) (c : Nat) (bs : List Int) (w : World) (h : Wt w0 gw w bs) (hbs : bs.length ≤ 900000000000) (hn : l.length ≤ 1000000) (hp : w.cell? p = some (.slice A l.length c)) (hsp : Safe w0 gw w p)
  (hq : w.cell? q = some (.iface 95 (.pointer (some ⟨gw, 0, none⟩)))) (hsq : Safe w0 gw w q) (hr : w.cell? r = some (.func (.func 58) #[] #[.pointer (some q)])) (hC : Kd.C (Kd.int .i64) w0 A l.length l) (hnf : NF w0 A l.length) (hb : ∀ x ∈ l, 0 ≤ x + 0 ∧ x + 0 ≤ 4611686018427387905) :
  Calls Tryz.prog 68 #[.pointer (some p), .pointer (some q), .pointer (some r)] w fun e w' => e = .returned (.tuple #[]) ∧ Wt w0 gw w' (bs ++ encL (encI 0) l) ∧ WStep gw w w' := by
 have HC := Aside0.mk (wl_70_66 w0 gw p q A l c bs w h hbs hn hp hsp hq hsq hC hnf hb)
 clear h hp hC hnf hb hsp hsq
 go_enter Tryz.func68, Tryz.ntmps68
 go_wp2_with (fail)
 refine HC.out.mono ?_
 rintro en w2 ⟨rfl, h2, h3⟩
 have H2 := Aside0.mk h2
 have H3 := Aside0.mk h3
 clear h2 h3
 go_wp2
 go_end0
 exact ⟨rfl, H2.out, H3.out⟩

/-- The numbers of all frames may be written. -/
def NF2 (w : World) (A : Option Addr) (m : Nat) : Prop := ∀ ad, A = some ad → ∀ j, j < m → ∀ F n f, w.cell? (ad.add j) = some (.slice F n f) → NF w F n
theorem flat_take {α : Type} (E : α → List Int) (l : List α) (i : Nat) (z : α) (h : i < l.length) : ((l.take i).flatMap E).length + (E (l.getD i z)).length ≤ (l.flatMap E).length := by
 have e : l = l.take i ++ (l.getD i z :: l.drop (i + 1)) := by
  have e2 : l.drop i = l.getD i z :: l.drop (i + 1) := by
   rw [List.drop_eq_getElem_cons h, List.getD_eq_getElem?_getD, List.getElem?_eq_getElem h]
   rfl
  rw [← e2, List.take_append_drop]
 have := congrArg (fun q => (q.flatMap E).length) e
 simp only [List.flatMap_append, List.flatMap_cons, List.length_append] at this
 omega

theorem wl_75_76 (w0 : World) (gw : Nat) (p q r : Addr) (A : Option Addr) (l : List (List Int)) (c : Nat) (bs : List Int) (w : World) (h : Wt w0 gw w bs) (hbs : bs.length + (encL (encL (encI 0)) l).length ≤ 900000000000) (hn : l.length ≤ 1000000) (hp : w.cell? p = some (.slice A l.length c)) (hsp : Safe w0 gw w p)
  (hq : w.cell? q = some (.iface 95 (.pointer (some ⟨gw, 0, none⟩)))) (hsq : Safe w0 gw w q) (hr : w.cell? r = some (.func (.func 58) #[] #[.pointer (some q)])) (hsr : Safe w0 gw w r) (hC : Kd.C (Kd.slice 3 (Kd.int .i64)) w0 A l.length l) (hnf : NF2 w0 A l.length)
  (hb : ∀ f ∈ l, f.length ≤ 1000000 ∧ ∀ x ∈ f, 0 ≤ x + 0 ∧ x + 0 ≤ 4611686018427387905) :
  Calls Tryz.prog 67 #[.iface 95 (.pointer (some ⟨gw, 0, none⟩)), .pointer (some p), .func (.func 68) #[] #[.pointer (some q), .pointer (some r)]] w fun e w' => e = .returned (.tuple #[]) ∧ Wt w0 gw w' (bs ++ encL (encL (encI 0)) l) ∧ WStep gw w w' := by
 rw [show encL (encL (encI 0)) l = enc l.length ++ l.flatMap (encL (encI 0)) from rfl, List.length_append] at hbs
 refine (wlist_75_76 w0 gw p A l.length c (.pointer (some q)) (.pointer (some r)) bs w (fun i wr => Wt w0 gw wr (bs ++ enc l.length ++ (l.take i).flatMap (encL (encI 0))) ∧ WStep gw w wr) h (by omega) hn hp ?_ ?_ ?_).mono ?_
 ·intro w1 h1 h2
  exact ⟨by simpa using h1, h2⟩
 ·intro i wr hP
  rw [cell_block (hsp.heap h.bel hP.1.bel hP.2)]
  exact hp
 ·intro i wr hi hP
  obtain ⟨ad, F, f, rfl, hcell, hfl, hCF⟩ := at_L2 hC (i : Int) (by omega) (by omega)
  have hrd : rd_L2 l (i : Int) = l.getD i [] := by simp [rd_L2]
  have hmem : l.getD i [] ∈ l := getD_mem hi
  have hx := hb _ hmem
  rw [hrd] at hcell hfl hCF
  simp only [Int.toNat_natCast] at hcell
  have htf := take_flat (encL (encI 0)) l i [] hi
  have hfl2 := flat_take (encL (encI 0)) l i [] hi
  generalize l.getD i [] = x at *
  have hblk : (ad.add i).block < w0.heap.size := World.block_lt_of_cell? _ _ hcell
  have hcell2 : wr.cell? (ad.add i) = some (.slice F x.length f) := by rw [cell_block (w := w0) (hP.1.bel.block _ hblk)]; exact hcell
  have hq2 : wr.cell? q = some (.iface 95 (.pointer (some ⟨gw, 0, none⟩))) := by rw [cell_block (hsq.heap h.bel hP.1.bel hP.2)]; exact hq
  have hr2 : wr.cell? r = some (.func (.func 58) #[] #[.pointer (some q)]) := by rw [cell_block (hsr.heap h.bel hP.1.bel hP.2)]; exact hr
  refine ⟨ad, rfl, (wf_any w0 gw (ad.add i) q r F x f _ wr hP.1 (by simp only [List.length_append]; omega) hx.1 hcell2 (.inl hblk) hq2 (hsq.move hP.2) hr2 hCF (hnf ad rfl i hi F _ f hcell) hx.2).mono ?_⟩
  rintro e w' ⟨rfl, h1, h2⟩
  refine ⟨rfl, ?_, hP.2.trans h2⟩
  rw [htf, ← List.append_assoc]
  exact h1
 ·rintro e w' ⟨rfl, h1, h2⟩
  refine ⟨rfl, ?_, h2⟩
  rw [List.take_length] at h1
  rw [show encL (encL (encI 0)) l = enc l.length ++ l.flatMap (encL (encI 0)) from rfl, ← List.append_assoc]
  exact h1

set_option maxHeartbeats 4000000 in
set_option maxRecDepth 100000 in
theorem wslot_any (w0 : World) (gw : Nat) (p q r : Addr) (A : Option Addr) (l : List (List Int)) (c : Nat) (bs : List Int) (w : World) (h : Wt w0 gw w bs) (hbs : bs.length + (encL (encL (encI 0)) l).length ≤ 900000000000) (hn : l.length ≤ 1000000) (hp : w.cell? p = some (.slice A l.length c)) (hsp : Safe w0 gw w p)
  (hq : w.cell? q = some (.iface 95 (.pointer (some ⟨gw, 0, none⟩)))) (hsq : Safe w0 gw w q) (hr : w.cell? r = some (.func (.func 58) #[] #[.pointer (some q)])) (hsr : Safe w0 gw w r) (hC : Kd.C (Kd.slice 3 (Kd.int .i64)) w0 A l.length l) (hnf : NF2 w0 A l.length)
  (hb : ∀ f ∈ l, f.length ≤ 1000000 ∧ ∀ x ∈ f, 0 ≤ x + 0 ∧ x + 0 ≤ 4611686018427387905) :
  Calls Tryz.prog 66 #[.pointer (some p), .pointer (some q), .pointer (some r)] w fun e w' => e = .returned (.tuple #[]) ∧ Wt w0 gw w' (bs ++ encL (encL (encI 0)) l) ∧ WStep gw w w' := by
 have HC := Aside0.mk (wl_75_76 w0 gw p q r A l c bs w h hbs hn hp hsp hq hsq hr hsr hC hnf hb)
 have hmf : ∀ (fn : Fn) (first cap : Array Value) (w : World), (Instr.makeFunc fn first cap).run Tryz.prog w = .ok (.func fn first cap) w := fun _ _ _ _ => rfl
 clear h hp hC hnf hb hsp hsq hsr
 go_enter Tryz.func66, Tryz.ntmps66
 go_wp2_with (fail)
 refine HC.out.mono ?_
 rintro en w2 ⟨rfl, h2, h3⟩
 have H2 := Aside0.mk h2
 have H3 := Aside0.mk h3
 clear h2 h3
 go_wp2
 go_end0
 exact ⟨rfl, H2.out, H3.out⟩

/-- The numbers of all slots may be written. -/
def NF3 (w : World) (A : Option Addr) (m : Nat) : Prop := ∀ ad, A = some ad → ∀ j, j < m → ∀ F n f, w.cell? (ad.add j) = some (.slice F n f) → NF2 w F n

theorem wl_73_74 (w0 : World) (gw : Nat) (p q r : Addr) (A : Option Addr) (l : List (List (List Int))) (c : Nat) (bs : List Int) (w : World) (h : Wt w0 gw w bs) (hbs : bs.length + (encL (encL (encL (encI 0))) l).length ≤ 900000000000) (hn : l.length ≤ 1000000) (hp : w.cell? p = some (.slice A l.length c)) (hsp : Safe w0 gw w p)
  (hq : w.cell? q = some (.iface 95 (.pointer (some ⟨gw, 0, none⟩)))) (hsq : Safe w0 gw w q) (hr : w.cell? r = some (.func (.func 58) #[] #[.pointer (some q)])) (hsr : Safe w0 gw w r) (hC : Kd.C (Kd.slice 25 (Kd.slice 3 (Kd.int .i64))) w0 A l.length l) (hnf : NF3 w0 A l.length)
  (hb : ∀ fr ∈ l, fr.length ≤ 1000000 ∧ ∀ f ∈ fr, f.length ≤ 1000000 ∧ ∀ x ∈ f, 0 ≤ x + 0 ∧ x + 0 ≤ 4611686018427387905) :
  Calls Tryz.prog 65 #[.iface 95 (.pointer (some ⟨gw, 0, none⟩)), .pointer (some p), .func (.func 66) #[] #[.pointer (some q), .pointer (some r)]] w fun e w' => e = .returned (.tuple #[]) ∧ Wt w0 gw w' (bs ++ encL (encL (encL (encI 0))) l) ∧ WStep gw w w' := by
 rw [show encL (encL (encL (encI 0))) l = enc l.length ++ l.flatMap (encL (encL (encI 0))) from rfl, List.length_append] at hbs
 refine (wlist_73_74 w0 gw p A l.length c (.pointer (some q)) (.pointer (some r)) bs w (fun i wr => Wt w0 gw wr (bs ++ enc l.length ++ (l.take i).flatMap (encL (encL (encI 0)))) ∧ WStep gw w wr) h (by omega) hn hp ?_ ?_ ?_).mono ?_
 ·intro w1 h1 h2
  exact ⟨by simpa using h1, h2⟩
 ·intro i wr hP
  rw [cell_block (hsp.heap h.bel hP.1.bel hP.2)]
  exact hp
 ·intro i wr hi hP
  obtain ⟨ad, F, f, rfl, hcell, hfl, hCF⟩ := at_L5 hC (i : Int) (by omega) (by omega)
  have hrd : rd_L5 l (i : Int) = l.getD i [] := by simp [rd_L5]
  have hmem : l.getD i [] ∈ l := getD_mem hi
  have hx := hb _ hmem
  rw [hrd] at hcell hfl hCF
  simp only [Int.toNat_natCast] at hcell
  have htf := take_flat (encL (encL (encI 0))) l i [] hi
  have hfl2 := flat_take (encL (encL (encI 0))) l i [] hi
  generalize l.getD i [] = x at *
  have hblk : (ad.add i).block < w0.heap.size := World.block_lt_of_cell? _ _ hcell
  have hcell2 : wr.cell? (ad.add i) = some (.slice F x.length f) := by rw [cell_block (w := w0) (hP.1.bel.block _ hblk)]; exact hcell
  have hq2 : wr.cell? q = some (.iface 95 (.pointer (some ⟨gw, 0, none⟩))) := by rw [cell_block (hsq.heap h.bel hP.1.bel hP.2)]; exact hq
  have hr2 : wr.cell? r = some (.func (.func 58) #[] #[.pointer (some q)]) := by rw [cell_block (hsr.heap h.bel hP.1.bel hP.2)]; exact hr
  refine ⟨ad, rfl, (wslot_any w0 gw (ad.add i) q r F x f _ wr hP.1 (by simp only [List.length_append]; omega) hx.1 hcell2 (.inl hblk) hq2 (hsq.move hP.2) hr2 (hsr.move hP.2) hCF (hnf ad rfl i hi F _ f hcell) hx.2).mono ?_⟩
  rintro e w' ⟨rfl, h1, h2⟩
  refine ⟨rfl, ?_, hP.2.trans h2⟩
  rw [htf, ← List.append_assoc]
  exact h1
 ·rintro e w' ⟨rfl, h1, h2⟩
  refine ⟨rfl, ?_, h2⟩
  rw [List.take_length] at h1
  rw [show encL (encL (encL (encI 0))) l = enc l.length ++ l.flatMap (encL (encL (encI 0))) from rfl, ← List.append_assoc]
  exact h1
end Go.Proofs.YtihjjkoddphmiaaGreatDoor.img

namespace Go.Proofs.YtihjjkoddphmiaaGreatDoor.img
open Go.RowKit Go.Proofs.YtihjjkoddphmiaaGreatDoorW.PrintWords Go.Proofs.YtihjjkoddphmiaaGreatDoorW.PrintMore Go.Proofs.YtihjjkoddphmiaaGreatDoor.PImageApart
set_option linter.unusedVariables false
set_option linter.unusedSimpArgs false

/-- What is no row of bytes, not the writer and not the last serial, stays. -/
structure WStep2 (gw gl : Nat) (w w1 : World) : Prop where
 size : w.heap.size ≤ w1.heap.size
 keep : ∀ k t cs, k ≠ gw → k ≠ gl → t ≠ 5 → w.heap[k]? = some (.cells cs t (0, 0)) → w1.heap[k]? = some (.cells cs t (0, 0))
theorem WStep.two {gw gl : Nat} {w w1 : World} (h : WStep gw w w1) : WStep2 gw gl w w1 := ⟨h.size, fun k t cs h1 h2 h3 hc => h.keep k t cs h1 h3 hc⟩
theorem WStep2.trans {gw gl : Nat} {w w1 w2 : World} (h : WStep2 gw gl w w1) (h1 : WStep2 gw gl w1 w2) : WStep2 gw gl w w2 := ⟨Nat.le_trans h.size h1.size, fun k t cs hk hl ht hc => h1.keep k t cs hk hl ht (h.keep k t cs hk hl ht hc)⟩

/-- The object's walk: where it stands. -/
structure Ob (w0 : World) (gw gl : Nat) (w wi : World) (z : Int) (us : List Int) : Prop where
 wt : Wt w0 gw wi us
 st : WStep2 gw gl w wi
 gl : wi.heap[gl]? = some (.cells #[.int .u64 z] 42 (0, 0))
theorem Ob.cell {w0 w wi : World} {gw gl : Nat} {z : Int} {us : List Int} (h : Ob w0 gw gl w wi z us) (hw : Below w0.heap.size w0 w) {q : Addr} {v : Value} (hs : Safe w0 gw w q) (hq : q.block ≠ gl) (hv : w.cell? q = some v) : wi.cell? q = some v := by
 refine (cell_block ?_).trans hv
 rcases hs with hs | ⟨t, cs, hne, ht, hc⟩
 ·rw [hw.block _ hs, h.wt.bel.block _ hs]
 ·rw [hc]; exact h.st.keep _ _ _ hne hq ht hc
theorem Ob.safe {w0 w wi : World} {gw gl : Nat} {z : Int} {us : List Int} (h : Ob w0 gw gl w wi z us) {q : Addr} (hs : Safe w0 gw w q) (hq : q.block ≠ gl) : Safe w0 gw wi q := by
 rcases hs with hs | ⟨t, cs, hne, ht, hc⟩
 ·exact .inl hs
 ·exact .inr ⟨t, cs, hne, ht, h.st.keep _ _ _ hne hq ht hc⟩
theorem Ob.old {w0 w wi : World} {gw gl : Nat} {z : Int} {us : List Int} (h : Ob w0 gw gl w wi z us) {q : Addr} {v : Value} (hv : w0.cell? q = some v) : wi.cell? q = some v := (cell_block (h.wt.bel.block _ (World.block_lt_of_cell? _ _ hv))).trans hv
theorem Ob.free {w0 w wi : World} {gw gl : Nat} {z : Int} {us : List Int} (h : Ob w0 gw gl w wi z us) {q : Addr} (hb : q.block < w0.heap.size) (hf : w0.frozen? q = false) : wi.frozen? q = false := (frozen_block (h.wt.bel.block _ hb)).trans hf
theorem Ob.next {w0 w wi wj : World} {gw gl : Nat} {z : Int} {us vs : List Int} (h : Ob w0 gw gl w wi z us) (hne : gl ≠ gw) (h1 : Wt w0 gw wj vs) (h2 : WStep gw wi wj) : Ob w0 gw gl w wj z vs := ⟨h1, h.st.trans h2.two, h2.keep _ _ _ hne (by decide) h.gl⟩
theorem Ob.drew {w0 w wi wj : World} {gw gl : Nat} {z : Int} {us : List Int} (h : Ob w0 gw gl w wi z us) (hne : gl ≠ gw) (hb : Below wi.heap.size wi wj) : Ob w0 gw gl w wj z us := h.next hne (h.wt.after hb) (WStep.of_below hb)
theorem Ob.set {w0 w wi : World} {gw gl : Nat} {z y : Int} {us : List Int} (h : Ob w0 gw gl w wi z us) (hne : gl ≠ gw) (h0 : w0.heap.size ≤ gl) : Ob w0 gw gl w (wi.setCell ⟨gl, 0, none⟩ (.int .u64 y)) y us := by
 obtain ⟨v, h1, h2⟩ := h.wt.row
 refine ⟨⟨below_set h.wt.bel h0, h.wt.old, v, blk_far h1 (fun e => hne e.symm) _, Kd.R_set h2 h.gl (by decide) _ _⟩, ⟨?_, ?_⟩, one_setCell h.gl⟩
 ·have := h.st.size
  simpa using this
 ·intro k t cs hk hl ht hc
  exact blk_far (h.st.keep k t cs hk hl ht hc) hl _

set_option maxHeartbeats 8000000 in
set_option maxRecDepth 100000 in
theorem wobj_any (w0 : World) (gw gl : Nat) (p q r : Addr) (o : S66) (A3 A4 : Option Addr) (c3 c4 : Nat) (last : Int) (bs : List Int) (w : World) (h : Wt w0 gw w bs) (hbs : bs.length + (encO last o).length ≤ 900000000000)
  (hq : w.cell? q = some (.iface 95 (.pointer (some ⟨gw, 0, none⟩)))) (hsq : Safe w0 gw w q) (hr : w.cell? r = some (.func (.func 58) #[] #[.pointer (some q)])) (hsr : Safe w0 gw w r)
  (hgl : w.heap[gl]? = some (.cells #[.int .u64 last] 42 (0, 0))) (hgl0 : w0.heap.size ≤ gl) (hql : q.block ≠ gl) (hrl : r.block ≠ gl)
  (q0 : w0.cell? p = some (.int .u64 o.f0)) (q1 : w0.cell? ⟨p.block, p.off + 1, none⟩ = some (.int .i64 o.f1)) (q2 : w0.cell? ⟨p.block, p.off + 2, none⟩ = some (.int .i64 o.f2)) (q3 : w0.cell? ⟨p.block, p.off + 3, none⟩ = some (.slice A3 o.f3.length c3)) (q4 : w0.cell? ⟨p.block, p.off + 4, none⟩ = some (.slice A4 o.f4.length c4))
  (f0 : w0.frozen? p = false) (f1 : w0.frozen? ⟨p.block, p.off + 1, none⟩ = false) (f2 : w0.frozen? ⟨p.block, p.off + 2, none⟩ = false) (nf3 : NF w0 A3 o.f3.length) (C3 : Kd.C (Kd.int .i64) w0 A3 o.f3.length o.f3) (C4 : Kd.C (Kd.int .u64) w0 A4 o.f4.length o.f4)
  (b0 : 0 ≤ last ∧ last ≤ o.f0 ∧ o.f0 ≤ 4611686018427387905) (b1 : 0 ≤ o.f1 ∧ o.f1 ≤ 4611686018427387905) (b2 : 0 ≤ o.f2 ∧ o.f2 ≤ 4611686018427387905) (b3 : o.f3.length ≤ 1000000 ∧ ∀ x ∈ o.f3, 0 ≤ x + 0 ∧ x + 0 ≤ 4611686018427387905) (b4 : o.f4.length ≤ 1000000 ∧ ∀ x ∈ o.f4, 0 ≤ x ∧ x < 18446744073709551616) :
  Calls Tryz.prog 61 #[.pointer (some p), .pointer (some ⟨gl, 0, none⟩), .pointer (some q), .pointer (some r)] w fun e w' => e = .returned (.tuple #[]) ∧ Wt w0 gw w' (bs ++ encO last o) ∧ WStep2 gw gl w w' ∧ w'.heap[gl]? = some (.cells #[.int .u64 o.f0] 42 (0, 0)) := by
 have hmf : ∀ (fn : Fn) (first cap : Array Value) (w : World), (Instr.makeFunc fn first cap).run Tryz.prog w = .ok (.func fn first cap) w := fun _ _ _ _ => rfl
 have hmw := method_w ⟨gw, 0, none⟩
 have hblk : p.block < w0.heap.size := World.block_lt_of_cell? _ _ q0
 have hpw := h.bel.block _ hblk
 have hp : w.cell? p = some (.int .u64 o.f0) := (cell_block (w := w0) hpw).trans q0
 have hl := cell_of_one hgl
 have hne : gl ≠ gw := by
  obtain ⟨v, hv, -⟩ := h.row
  intro e
  rw [e, hv] at hgl
  simp at hgl
 have hwr : IntKind.u64.wrap (o.f0 - last) = o.f0 - last := by
  show (o.f0 - last) % 18446744073709551616 = _
  omega
 have HO : Aside0 (Ob w0 gw gl w w last bs) := ⟨⟨h, ⟨Nat.le_refl _, fun _ _ _ _ _ _ hc => hc⟩, hgl⟩⟩
 have HBW := Aside0.mk h.bel
 have HQ := Aside0.mk hq
 have HSQ := Aside0.mk hsq
 have HRR := Aside0.mk hr
 have HSR := Aside0.mk hsr
 have HQ0 := Aside0.mk q0
 have HQ1 := Aside0.mk q1
 have HQ2 := Aside0.mk q2
 have HQ3 := Aside0.mk q3
 have HQ4 := Aside0.mk q4
 have HF0 := Aside0.mk f0
 have HF1 := Aside0.mk f1
 have HF2 := Aside0.mk f2
 have HF3 := Aside0.mk nf3
 have HC3 := Aside0.mk C3
 have HC4 := Aside0.mk C4
 have HB3 := Aside0.mk b3
 have HB4 := Aside0.mk b4
 have HBK := Aside0.mk hblk
 have HGL0 := Aside0.mk hgl0
 clear hq hsq hr hsr hgl hgl0 q0 q1 q2 q3 q4 f0 f1 f2 nf3 C3 C4 hblk b3 b4 hpw
 go_enter Tryz.func61, Tryz.ntmps61
 go_wp2
 go_region_held3 (fun w' => w'.cell? p = some (.int .u64 o.f0) ∧ w'.cell? ⟨gl, 0, none⟩ = some (.int .u64 last)) (go_keep) ((fail))
 have hb1 : Below w.heap.size w (w.alloc (.cells #[.int .u64 (o.f0 - last)] 42)).drew := (below_alloc (Below.refl w.heap.size w) _).drew
 have HX1 : Aside0 ((w.alloc (.cells #[.int .u64 (o.f0 - last)] 42)).drew.heap[w.heap.size]? = some (.cells #[.int .u64 (o.f0 - last)] 42 (0, 0))) := ⟨heap_alloc_new w _⟩
 have HO1 := Aside0.mk (HO.out.drew hne hb1)
 have hxw : w.heap.size ≠ gw := by
  obtain ⟨v, hv, -⟩ := h.row
  have := blk_lt hv
  omega
 clear hb1 hp hl h HO
 generalize (w.alloc (.cells #[.int .u64 (o.f0 - last)] 42)).drew = w1 at *
 have hq1 := HO1.out.cell HBW.out HSQ.out hql HQ.out
 have hx1 := cell_of_one HX1.out
 simp only [encO, List.length_append] at hbs
 go_wp2_with (fail)
 refine (wnumber_any w0 gw ⟨w.heap.size, 0, none⟩ (o.f0 - last).toNat 4611686018427387905 bs w1 HO1.out.wt (by rw [hx1]; congr 2; omega) (by omega) (by omega)).mono ?_
 rintro en w2 ⟨rfl, h2, h3⟩
 have HO2 := Aside0.mk (HO1.out.next hne h2 h3)
 have hx2 := cell_of_one (h3.keep _ _ _ hxw (by decide) HX1.out)
 have hp2 := HO2.out.old HQ0.out
 have hfp2 := HO2.out.free HBK.out HF0.out
 have hl2 := cell_of_one HO2.out.gl
 have hw2 : IntKind.u64.wrap (last + (o.f0 - last)) = o.f0 := by
  show (last + (o.f0 - last)) % 18446744073709551616 = _
  omega
 have hw3 : IntKind.u64.wrap o.f0 = o.f0 := by
  show o.f0 % 18446744073709551616 = _
  omega
 have hid := setCell_id hp2
 have hfl2 := free_of_one HO2.out.gl
 have HO3 := Aside0.mk (HO2.out.set (y := o.f0) hne HGL0.out)
 clear h2 h3 hq1 hx1 HX1 HO1
 go_wp2_with (fail)
 clear hfl2 hid hw2 hw3 hl2 hfp2 hp2 hx2 HO2
 generalize w2.setCell ⟨gl, 0, none⟩ (.int .u64 o.f0) = w3 at *
 have hq3 := HO3.out.cell HBW.out HSQ.out hql HQ.out
 go_still_tail 4, (by kernel_rfl)
 change wpList _ _ _ _ _ w3.drew
 have HD3 := Aside0.mk (HO3.out.drew hne (below_drew (Below.refl _ _)))
 generalize w3.drew = d3 at *
 go_wp2_with (fail)
 refine (winteger_any w0 gw ⟨p.block, p.off + 1, none⟩ o.f1 0 _ d3 HD3.out.wt (HD3.out.old HQ1.out) (HD3.out.free (q := ⟨p.block, p.off + 1, none⟩) HBK.out HF1.out) (.inl HBK.out) (by omega) (by omega) (by omega) (by simp only [List.length_append]; omega)).mono ?_
 rintro en w4 ⟨rfl, h2, h3⟩
 have HO4 := Aside0.mk (HD3.out.next hne h2 h3)
 have hq4 := HO4.out.cell HBW.out HSQ.out hql HQ.out
 clear h2 h3 HO3 HD3 hq3
 go_wp2_with (fail)
 clear hq4
 have hq4 := HO4.out.cell HBW.out HSQ.out hql HQ.out
 go_still_tail 4, (by kernel_rfl)
 change wpList _ _ _ _ _ w4.drew
 have HD4 := Aside0.mk (HO4.out.drew hne (below_drew (Below.refl _ _)))
 generalize w4.drew = d4 at *
 go_wp2_with (fail)
 refine (winteger_any w0 gw ⟨p.block, p.off + 2, none⟩ o.f2 0 _ d4 HD4.out.wt (HD4.out.old HQ2.out) (HD4.out.free (q := ⟨p.block, p.off + 2, none⟩) HBK.out HF2.out) (.inl HBK.out) (by omega) (by omega) (by omega) (by simp only [List.length_append]; omega)).mono ?_
 rintro en w5 ⟨rfl, h2, h3⟩
 have HO5 := Aside0.mk (HD4.out.next hne h2 h3)
 have hq5 := HO5.out.cell HBW.out HSQ.out hql HQ.out
 have hr5 := HO5.out.cell HBW.out HSR.out hrl HRR.out
 clear h2 h3 HO4 HD4 hq4
 go_wp2_with (fail)
 go_still_tail 5, (by kernel_rfl)
 change wpList _ _ _ _ _ w5.drew
 have HD5 := Aside0.mk (HO5.out.drew hne (below_drew (Below.refl _ _)))
 generalize w5.drew = d5 at *
 go_wp2_with (fail)
 refine (wl_70_66 w0 gw ⟨p.block, p.off + 3, none⟩ q A3 o.f3 c3 _ d5 HD5.out.wt (by simp only [List.length_append]; omega) HB3.out.1 (HD5.out.old HQ3.out) (.inl HBK.out) (HD5.out.cell HBW.out HSQ.out hql HQ.out) (HD5.out.safe HSQ.out hql) HC3.out HF3.out HB3.out.2).mono ?_
 rintro en w6 ⟨rfl, h2, h3⟩
 have HO6 := Aside0.mk (HD5.out.next hne h2 h3)
 have hq6 := HO6.out.cell HBW.out HSQ.out hql HQ.out
 clear h2 h3 HO5 HD5 hq5 hr5
 go_wp2_with (fail)
 go_still_tail 5, (by kernel_rfl)
 change wpList _ _ _ _ _ w6.drew
 have HD6 := Aside0.mk (HO6.out.drew hne (below_drew (Below.refl _ _)))
 generalize w6.drew = d6 at *
 go_wp2_with (fail)
 refine (wl_71_72 w0 gw ⟨p.block, p.off + 4, none⟩ q A4 o.f4 c4 _ d6 HD6.out.wt (by simp only [List.length_append]; omega) HB4.out.1 (HD6.out.old HQ4.out) (.inl HBK.out) (HD6.out.cell HBW.out HSQ.out hql HQ.out) (HD6.out.safe HSQ.out hql) HC4.out HB4.out.2).mono ?_
 rintro en w7 ⟨rfl, h2, h3⟩
 have HO7 := Aside0.mk (HD6.out.next hne h2 h3)
 clear h2 h3 HO6 HD6 hq6
 go_wp2_with (fail)
 go_end0
 have h7 := HO7.out
 refine ⟨rfl, ?_, h7.st, h7.gl⟩
 have := h7.wt
 simpa only [encO, List.append_assoc] using this
end Go.Proofs.YtihjjkoddphmiaaGreatDoor.img

namespace Go.Proofs.YtihjjkoddphmiaaGreatDoor.img
open Go.RowKit Go.Proofs.YtihjjkoddphmiaaGreatDoorW.PrintWords Go.Proofs.YtihjjkoddphmiaaGreatDoorW.PrintMore Go.Proofs.YtihjjkoddphmiaaGreatDoor.PImageApart
set_option linter.unusedVariables false
set_option linter.unusedSimpArgs false

section
variable {σ α : Type}
theorem encS_snoc (E : σ → α → List Int) (next : σ → α → σ) (z : α) : ∀ (l : List α) (s : σ) (i : Nat), i < l.length → encS E next s (l.take (i + 1)) = encS E next s (l.take i) ++ E (lastS next s (l.take i)) (l.getD i z)
 | [], _, i, h => by simp at h
 | x :: r, s, 0, h => by simp [encS, lastS]
 | x :: r, s, i + 1, h => by
  have := encS_snoc E next z r (next s x) i (by simpa using h)
  simp only [List.take_succ_cons, encS, lastS, this, List.append_assoc, List.getD_cons_succ]
theorem lastS_snoc (next : σ → α → σ) (z : α) : ∀ (l : List α) (s : σ) (i : Nat), i < l.length → lastS next s (l.take (i + 1)) = next (lastS next s (l.take i)) (l.getD i z)
 | [], _, i, h => by simp at h
 | x :: r, s, 0, h => by simp [lastS]
 | x :: r, s, i + 1, h => by
  have := lastS_snoc next z r (next s x) i (by simpa using h)
  simp only [List.take_succ_cons, lastS, this, List.getD_cons_succ]
theorem allS_get {next : σ → α → σ} {ok : σ → α → Prop} (z : α) : ∀ (l : List α) (s : σ) (i : Nat), allS next ok s l → i < l.length → ok (lastS next s (l.take i)) (l.getD i z)
 | [], _, i, _, h => by simp at h
 | x :: r, s, 0, ha, h => by simpa [lastS] using ha.1
 | x :: r, s, i + 1, ha, h => by
  have := allS_get z r (next s x) i ha.2 (by simpa using h)
  simpa [lastS] using this
theorem encS_part (E : σ → α → List Int) (next : σ → α → σ) (z : α) (l : List α) (s : σ) (i : Nat) (h : i < l.length) : (encS E next s (l.take i)).length + (E (lastS next s (l.take i)) (l.getD i z)).length ≤ (encS E next s l).length := by
 have e := encS_snoc E next z l s i h
 have h2 : ∀ (m : List α) (s : σ) (k : Nat), (encS E next s (m.take k)).length ≤ (encS E next s m).length := by
  intro m
  induction m with
  | nil => intro s k; simp
  | cons x r ih =>
   intro s k
   cases k with
   | zero => simp [encS]
   | succ k =>
    have := ih (next s x) k
    simp only [List.take_succ_cons, encS, List.length_append]
    omega
 have h3 := h2 l s (i + 1)
 rw [e, List.length_append] at h3
 exact h3
end

/-- An object that a writer can lay down. -/
def okW (last : Int) (o : S66) : Prop := (0 ≤ last ∧ last ≤ o.f0 ∧ o.f0 ≤ 4611686018427387905) ∧ (0 ≤ o.f1 ∧ o.f1 ≤ 4611686018427387905) ∧ (0 ≤ o.f2 ∧ o.f2 ≤ 4611686018427387905) ∧ (o.f3.length ≤ 1000000 ∧ ∀ x ∈ o.f3, 0 ≤ x + 0 ∧ x + 0 ≤ 4611686018427387905) ∧ (o.f4.length ≤ 1000000 ∧ ∀ x ∈ o.f4, 0 ≤ x ∧ x < 18446744073709551616)
/-- The objects' cells may be written. -/
def NFO (w : World) (A : Option Addr) (m : Nat) : Prop := ∀ ad, A = some ad → ∀ j, j < m → w.frozen? (ad.add (j * 5)) = false ∧ w.frozen? ⟨(ad.add (j * 5)).block, (ad.add (j * 5)).off + 1, none⟩ = false ∧ w.frozen? ⟨(ad.add (j * 5)).block, (ad.add (j * 5)).off + 2, none⟩ = false ∧ ∀ F n f, w.cell? ⟨(ad.add (j * 5)).block, (ad.add (j * 5)).off + 3, none⟩ = some (.slice F n f) → NF w F n

theorem wl_68_69 (w0 : World) (gw gl : Nat) (p q r : Addr) (A : Option Addr) (l : List S66) (c : Nat) (bs : List Int) (w : World) (h : Wt w0 gw w bs) (hbs : bs.length + (enc l.length ++ encOs 0 l).length ≤ 900000000000) (hn : l.length ≤ 1000000) (hp : w.cell? p = some (.slice A l.length c)) (hsp : Safe w0 gw w p) (hpl : p.block ≠ gl)
  (hq : w.cell? q = some (.iface 95 (.pointer (some ⟨gw, 0, none⟩)))) (hsq : Safe w0 gw w q) (hr : w.cell? r = some (.func (.func 58) #[] #[.pointer (some q)])) (hsr : Safe w0 gw w r) (hgl : w.heap[gl]? = some (.cells #[.int .u64 0] 42 (0, 0))) (hgl0 : w0.heap.size ≤ gl) (hql : q.block ≠ gl) (hrl : r.block ≠ gl)
  (hC : Kd.C k66 w0 A l.length l) (hnf : NFO w0 A l.length) (hb : allS (fun _ o => o.f0) okW 0 l) :
  Calls Tryz.prog 60 #[.iface 95 (.pointer (some ⟨gw, 0, none⟩)), .pointer (some p), .func (.func 61) #[] #[.pointer (some ⟨gl, 0, none⟩), .pointer (some q), .pointer (some r)]] w fun e w' => e = .returned (.tuple #[]) ∧ Wt w0 gw w' (bs ++ (enc l.length ++ encOs 0 l)) ∧ WStep2 gw gl w w' := by
 have hne : gl ≠ gw := by
  obtain ⟨v, hv, -⟩ := h.row
  intro e
  rw [e, hv] at hgl
  simp at hgl
 rw [encOs_eq] at hbs ⊢
 rw [List.length_append] at hbs
 refine (wlist_68_69 w0 gw p A l.length c (.pointer (some ⟨gl, 0, none⟩)) (.pointer (some q)) (.pointer (some r)) bs w (fun i wr => Ob w0 gw gl w wr (lastS (fun _ o => o.f0) 0 (l.take i)) (bs ++ enc l.length ++ encS encO (fun _ o => o.f0) 0 (l.take i))) h (by omega) hn hp ?_ ?_ ?_).mono ?_
 ·intro w1 h1 h2
  refine ⟨by simpa [encS] using h1, h2.two, ?_⟩
  simp only [List.take_zero, lastS]
  exact h2.keep _ _ _ hne (by decide) hgl
 ·intro i wr hP
  exact hP.cell h.bel hsp hpl hp
 ·intro i wr hi hP
  obtain ⟨ad, A3, c3, A4, c4, rfl, q0, q1, q2, q3, q4, -, C3, -, C4⟩ := at_T66 hC (i : Int) (by omega) (by omega)
  have hrd : rd_T66 l (i : Int) = l.getD i z66 := by simp [rd_T66]
  have hok := allS_get z66 l 0 i hb hi
  rw [hrd] at q0 q1 q2 q3 q4 C3 C4
  simp only [Int.toNat_natCast] at q0 q1 q2 q3 q4
  have hes := encS_snoc encO (fun _ o => o.f0) z66 l 0 i hi
  have hls := lastS_snoc (fun (_ : Int) (o : S66) => o.f0) z66 l 0 i hi
  have hpt := encS_part encO (fun _ o => o.f0) z66 l 0 i hi
  obtain ⟨f0, f1, f2, f3⟩ := hnf ad rfl i hi
  generalize l.getD i z66 = x at *
  generalize lastS (fun (_ : Int) (o : S66) => o.f0) 0 (l.take i) = last at *
  obtain ⟨b0, b1, b2, b3, b4⟩ := hok
  refine ⟨ad, rfl, (wobj_any w0 gw gl (ad.add (i * 5)) q r x A3 A4 c3 c4 last _ wr hP.wt (by simp only [List.length_append]; omega) (hP.cell h.bel hsq hql hq) (hP.safe hsq hql) (hP.cell h.bel hsr hrl hr) (hP.safe hsr hrl) hP.gl hgl0 hql hrl q0 q1 q2 q3 q4 f0 f1 f2 (f3 _ _ _ q3) C3 C4 b0 b1 b2 b3 b4).mono ?_⟩
  rintro e w' ⟨rfl, h1, h2, h3⟩
  refine ⟨rfl, ?_, hP.st.trans h2, by rw [hls]; exact h3⟩
  rw [hes, ← List.append_assoc]
  exact h1
 ·rintro e w' ⟨rfl, hP⟩
  have h1 := hP.wt
  rw [List.take_length] at h1
  refine ⟨rfl, ?_, hP.st⟩
  rw [← List.append_assoc]
  exact h1
end Go.Proofs.YtihjjkoddphmiaaGreatDoor.img

namespace Go.Proofs.YtihjjkoddphmiaaGreatDoor.img
open Go.RowKit Go.Proofs.YtihjjkoddphmiaaGreatDoorW.PrintWords Go.Proofs.YtihjjkoddphmiaaGreatDoorW.PrintMore Go.Proofs.YtihjjkoddphmiaaGreatDoor.PImageApart
set_option linter.unusedVariables false
set_option linter.unusedSimpArgs false

/-- The head's own row. -/
structure WI (w : World) (base : Nat) (v : Value) (bs : List Int) : Prop where
 mk ::
 out : ∃ g, v = .slice (some ⟨g, 0, none⟩) 4 4 ∧ bs = head ∧ base ≤ g ∧ w.heap[g]? = some (.cells #[.int .u8 77, .int .u8 68, .int .u8 73, .int .u8 49] 5 (4, 5))
/-- A row that may be the head's own. -/
def WR (w : World) (base : Nat) (v : Value) (bs : List Int) : Prop := Kd.R (Kd.int .u8) 5 w base (fun _ => True) v bs ∨ WI w base v bs
theorem WR.ne {w : World} {base : Nat} {v : Value} {bs : List Int} (h : WR w base v bs) {g t : Nat} {cs : Array Value} (hb : w.heap[g]? = some (.cells cs t (0, 0))) (ht : 5 ≠ t) : some g ≠ v.ownBlock := by
 rcases h with h | h
 ·exact Kd.R_ne h hb ht
 ·obtain ⟨g', rfl, -, -, hg⟩ := h.out
  intro e
  simp only [Value.ownBlock, Option.some.injEq] at e
  subst e
  rw [hb] at hg
  simp at hg
theorem WR.slice {w : World} {base : Nat} {v : Value} {bs : List Int} (h : WR w base v bs) : ∃ A c, v = .slice A bs.length c := by
 rcases h with h | h
 ·exact Kd.R_slice h
 ·obtain ⟨g', rfl, rfl, -, hg⟩ := h.out
  exact ⟨_, _, rfl⟩
theorem WR.below {w w1 : World} {base : Nat} {v : Value} {bs : List Int} (h : WR w base v bs) (hb : Below w.heap.size w w1) : WR w1 base v bs := by
 rcases h with h | h
 ·exact .inl (Kd.R_below h hb)
 ·obtain ⟨g', rfl, rfl, h1, hg⟩ := h.out
  exact .inr ⟨g', rfl, rfl, h1, (hb.block _ (blk_lt hg)).trans hg⟩
theorem grown_any {w w1 : World} (h : w.grownBy w1 none) (row : Option Nat) : w.grownBy w1 row := ⟨h.os, h.tape, h.output, h.size, fun i hi _ => h.block i hi (by simp)⟩

section
variable {P : Program} {ops : Array Oper} {rest : List Oper} {o : Oper} {a : Act} {Q : Exit → Act → World → Prop}
theorem WR_append {w0 W : World} (hgd : o.guard = none) (s x : Operand)
  (ho : o.op = .call { callee := .builtin .append, args := #[s, x], argTypes := #[40, 40] })
  (ht : P.underlying 40 = some (.slice 5)) (hinfo : (P.info? 5).map (fun i => (i.zero, i.size, i.bytes)) = some (some (.int .u8 0), 1, 1))
  (v : Value) (xs : List Int) (p : Int) (hs : a.eval s = v) (hx : a.eval x = .slice (some ⟨W.heap.size, 0, none⟩) 1 1)
  (HO : WR W w0.heap.size v xs) (HB : Below w0.heap.size w0 W) (hl : xs.length ≤ 1000000000011)
  (h : ∀ v1 w1, Kd.R (Kd.int .u8) 5 w1 w0.heap.size (fun _ => True) v1 (xs ++ [p]) → Below w0.heap.size w0 w1 → W.grownBy w1 v.ownBlock → wpList P ops Q rest (a.put o.dst v1) w1) :
  wpList P ops Q (o :: rest) a (W.alloc (.cells #[.int .u8 p] 5)) := by
 rcases HO with HO | HI
 ·exact Kd.R_append (Kd.int .u8) (w0 := w0) w0.heap.size hgd s x 40 5 (.int .u8 0) 1 ho ht hinfo rfl (by decide) (by omega) v xs p [.int .u8 p] (fun _ => True) (fun _ => False) hs hx rfl (fun _ hk => hk.elim) (fun _ _ => trivial) HO HB HB.size (by omega) (fun v1 w1 h1 h2 h3 _ => h v1 w1 h1 h2 h3)
 ·obtain ⟨g, rfl, rfl, hbg, hg⟩ := HI.out
  obtain ⟨i0, hi, hzz⟩ := Option.map_eq_some_iff.1 hinfo
  simp only [Prod.mk.injEq] at hzz
  obtain ⟨hz0, hz1, hz2⟩ := hzz
  have hg2 : (W.alloc (.cells #[.int .u8 p] 5)).heap[g]? = some (.cells #[.int .u8 77, .int .u8 68, .int .u8 73, .int .u8 49] 5 (4, 5)) := (Below.heap_alloc W _ g (blk_lt hg)).trans hg
  have hnew := heap_alloc_new W (.cells #[.int .u8 p] 5)
  refine wpList_append_grows _ hgd s x 40 ho 5 i0 (.int .u8 0) 1 1 ht hi hz0 hz1 hz2 rfl (by omega) (some ⟨g, 0, none⟩) 4 4 [.int .u8 77, .int .u8 68, .int .u8 73, .int .u8 49] hs (by intro e; cases e) rfl ?_ ⟨W.heap.size, 0, none⟩ 1 1 [.int .u8 p] hx rfl ?_ (by intro u hu; rw [List.mem_singleton.1 hu]; rfl) (by omega) (by decide) (by omega) ?_
  ·rintro b e j u hu
   cases e
   rw [add_plain, cell_of_row _ g j _ 5 (4, 5) hg2]
   simpa using hu
  ·intro j u hu
   rw [add_plain, cell_of_row _ W.heap.size j _ 5 (0, 0) hnew]
   simpa using hu
  ·intro v1 w1 hown hgr
   have hW : W.grownBy w1 none := (World.grownBy_alloc W _ none).trans hgr
   have hsz : W.heap.size ≤ (W.alloc (.cells #[.int .u8 p] 5)).heap.size := (below_alloc (Below.refl W.heap.size W) _).size
   refine h v1 w1 (Kd.R_lower (Kd.R_of_own hown (fun _ _ => trivial)) (Nat.le_trans HB.size hsz)) (pw_below_grown HB none HB.size hW (by intro k hk; cases hk)) (grown_any hW _)
end

/-- The writer's block where the row may be the head's own. -/
structure Wx (w0 : World) (gw : Nat) (w : World) (bs : List Int) : Prop where
 bel : Below w0.heap.size w0 w
 old : w0.heap.size ≤ gw
 row : ∃ v, w.heap[gw]? = some (.cells #[v] 97 (0, 0)) ∧ WR w w0.heap.size v bs
theorem Wt.wx {w0 w : World} {gw : Nat} {bs : List Int} (h : Wt w0 gw w bs) : Wx w0 gw w bs := ⟨h.bel, h.old, h.row.imp fun v hv => ⟨hv.1, .inl hv.2⟩⟩
theorem Wx.after {w0 : World} {gw : Nat} {w w1 : World} {bs : List Int} (h : Wx w0 gw w bs) (hb : Below w.heap.size w w1) : Wx w0 gw w1 bs := by
 obtain ⟨v, h1, h2⟩ := h.row
 exact ⟨below_step h.bel hb, h.old, v, blk_below h1 hb, h2.below hb⟩
theorem Wx.push {w0 : World} {gw : Nat} {w w1 : World} {v v1 : Value} {bs : List Int} {x : Int} (h0 : w0.heap.size ≤ gw) (h1 : w.heap[gw]? = some (.cells #[v] 97 (0, 0))) (h2 : WR w w0.heap.size v bs) (hg : w.grownBy w1 v.ownBlock) (hb : Below w0.heap.size w0 w1) (hW : Kd.R (Kd.int .u8) 5 w1 w0.heap.size (fun _ => True) v1 (bs ++ [x])) :
  Wt w0 gw (w1.setCell ⟨gw, 0, none⟩ v1) (bs ++ [x]) ∧ WStep gw w (w1.setCell ⟨gw, 0, none⟩ v1) := by
 have e2 := blk_grown h1 hg (h2.ne h1 (by decide))
 refine ⟨⟨below_set hb h0, h0, v1, one_setCell e2, Kd.R_set hW e2 (by decide) _ _⟩, ?_, ?_⟩
 ·have := hg.size
  simpa using this
 ·intro k t cs hk ht hc
  exact blk_far (blk_grown hc hg (h2.ne hc (fun e => ht e.symm))) hk _

set_option maxHeartbeats 4000000 in
set_option maxRecDepth 100000 in
theorem wnumber_first (w0 : World) (gw : Nat) (p : Addr) (x : Nat) (most : Int) (bs : List Int) (w : World) (h : Wx w0 gw w bs) (hp : w.cell? p = some (.int .u64 x)) (hx : x < 18446744073709551616) (hbs : bs.length ≤ 1000000000000) :
  Calls Tryz.prog 154 #[.pointer (some ⟨gw, 0, none⟩), .pointer (some p), .int .u64 most] w fun e w' => e = .returned (.tuple #[]) ∧ Wt w0 gw w' (bs ++ enc x) ∧ WStep gw w w' := by
 have HW := Aside0.mk h
 clear h
 have HS := Aside0.mk (WStep.refl gw w)
 obtain ⟨res, hres⟩ : ∃ r, bs ++ enc x = r := ⟨_, rfl⟩
 have HRES := Aside0.mk hres
 have hrl : res.length ≤ 1000000000011 := by
  have := enc_ten hx
  rw [← hres, List.length_append]
  omega
 rw [hres]
 clear hres
 go_enter Tryz.func154, Tryz.ntmps154
 go_wp2
 go_loopw [6] (fun a wr => ∃ (y : Nat) (us : List Int), a = .int .u64 y ∧ y < 18446744073709551616 ∧ Aside0 (us ++ enc y = res) ∧ Aside0 (Wx w0 gw wr us) ∧ Aside0 (WStep gw w wr)) (fun a _ => (intOf a).toNat)
 case atStart => exact ⟨x, bs, rfl, hx, HRES, HW, HS⟩
 case round =>
  clear HW HS HRES
  obtain ⟨y, us, rfl, hy, HRES, HW, HS⟩ := hrel
  obtain ⟨v, h1, h2⟩ := HW.out.row
  have hc := cell_of_one h1
  have HH1 := Aside0.mk h1
  have HH2 := Aside0.mk h2
  clear h1 h2
  have hul : us.length ≤ 1000000000011 := by
   have e := congrArg List.length HRES.out
   rw [List.length_append] at e
   omega
  obtain ⟨Ab, cb, rfl⟩ := HH2.out.slice
  by_cases hlt : y < 128
  ·have HE : Aside0 (us ++ [(y : Int)] = res) := ⟨by have := HRES.out; rw [enc_lt hlt] at this; exact this⟩
   go_wp2_with (first | (refine WR_append (w0 := w0) rfl (.tmp 30) (.tmp 33) rfl Tryz.underlying40 info5 (.slice Ab us.length cb) us (y : Int) rfl (by first | (go_simp; done) | (go_simp; rfl)) HH2.out HW.out.bel (by omega) ?_; intro v1 w3 ho hb hg; obtain ⟨Av, cv, rfl⟩ := Kd.R_slice ho; have e3 := blk_grown HH1.out hg (HH2.out.ne HH1.out (by decide)); have hvw3 := cell_of_one e3; have hfw3 := free_of_one e3; have HP := Aside0.mk (Wx.push HW.out.old HH1.out HH2.out hg hb ho); clear ho hb hg e3))
   go_end0
   have := HP.out
   rw [List.length_append, List.length_singleton] at this
   rw [HE.out] at this
   exact ⟨rfl, this.1, HS.out.trans this.2⟩
  ·obtain ⟨z, hz⟩ : ∃ z, bits BinOp.or IntKind.u8 ((y : Int) % 256) 128 = z := ⟨_, rfl⟩
   have HE : Aside0 ((us ++ [z]) ++ enc (y / 128) = res) := ⟨by have := HRES.out; rw [enc_ge hlt, ← or_byte, hz] at this; simpa using this⟩
   go_wp2_with (first | (refine WR_append (w0 := w0) rfl (.tmp 18) (.tmp 22) rfl Tryz.underlying40 info5 (.slice Ab us.length cb) us z rfl (by first | (go_simp; done) | (go_simp; rfl)) HH2.out HW.out.bel (by omega) ?_; intro v1 w3 ho hb hg; obtain ⟨Av, cv, rfl⟩ := Kd.R_slice ho; have e3 := blk_grown HH1.out hg (HH2.out.ne HH1.out (by decide)); have hvw3 := cell_of_one e3; have hfw3 := free_of_one e3; have HP := Aside0.mk (Wx.push HW.out.old HH1.out HH2.out hg hb ho); clear ho hb hg e3))
   go_roundw
   case rel =>
    have := HP.out
    rw [List.length_append, List.length_singleton] at this
    exact ⟨y / 128, us ++ [z], by go_num, by omega, HE, ⟨this.1.wx⟩, ⟨HS.out.trans this.2⟩⟩
   case measure => simp [intOf]; omega
end Go.Proofs.YtihjjkoddphmiaaGreatDoor.img

namespace Go.Proofs.YtihjjkoddphmiaaGreatDoor.img
open Go.RowKit Go.Proofs.YtihjjkoddphmiaaGreatDoorW.PrintWords Go.Proofs.YtihjjkoddphmiaaGreatDoorW.PrintMore Go.Proofs.YtihjjkoddphmiaaGreatDoor.PImageApart
set_option linter.unusedVariables false
set_option linter.unusedSimpArgs false

theorem ahead_w (a : Addr) (w : World) : (nilAhead 291 95 (.pointer (some a)) "midden/image.number").run Tryz.prog w = .ok (some false) w := by kernel_rfl
theorem ahead_r (a : Addr) (w : World) : (nilAhead 291 82 (.pointer (some a)) "midden/image.number").run Tryz.prog w = .ok (some false) w := by kernel_rfl
/-- The walk over a whole graph: where it stands. -/
structure WA (w0 : World) (gw gg gq gf : Nat) (cg : Array Value) (us : List Int) (wi : World) : Prop where
 wt : Wt w0 gw wi us
 g : wi.heap[gg]? = some (.cells cg 44 (0, 0))
 q : wi.heap[gq]? = some (.cells #[.iface 95 (.pointer (some ⟨gw, 0, none⟩))] 101 (0, 0))
 f : wi.heap[gf]? = some (.cells #[.func (.func 58) #[] #[.pointer (some ⟨gq, 0, none⟩)]] 104 (0, 0))
section
variable {w0 wi wj : World} {gw gg gq gf : Nat} {cg : Array Value} {us vs : List Int}
theorem blk_writer {bs : List Int} (h : Wt w0 gw wi bs) {k t : Nat} {cs : Array Value} (hb : wi.heap[k]? = some (.cells cs t (0, 0))) (ht : t ≠ 97) : k ≠ gw := by
 obtain ⟨v, hv, -⟩ := h.row
 exact blk_ne hb hv ht
theorem WA.step (h : WA w0 gw gg gq gf cg us wi) (hw : Wt w0 gw wj vs) (hs : WStep gw wi wj) : WA w0 gw gg gq gf cg vs wj :=
 ⟨hw, hs.keep _ _ _ (blk_writer h.wt h.g (by decide)) (by decide) h.g, hs.keep _ _ _ (blk_writer h.wt h.q (by decide)) (by decide) h.q, hs.keep _ _ _ (blk_writer h.wt h.f (by decide)) (by decide) h.f⟩
theorem WA.step2 {gl : Nat} (h : WA w0 gw gg gq gf cg us wi) (hw : Wt w0 gw wj vs) (hs : WStep2 gw gl wi wj) (h1 : gg ≠ gl) (h2 : gq ≠ gl) (h3 : gf ≠ gl) : WA w0 gw gg gq gf cg vs wj :=
 ⟨hw, hs.keep _ _ _ (blk_writer h.wt h.g (by decide)) h1 (by decide) h.g, hs.keep _ _ _ (blk_writer h.wt h.q (by decide)) h2 (by decide) h.q, hs.keep _ _ _ (blk_writer h.wt h.f (by decide)) h3 (by decide) h.f⟩
theorem WA.below (h : WA w0 gw gg gq gf cg us wi) (hb : Below wi.heap.size wi wj) : WA w0 gw gg gq gf cg us wj := h.step (h.wt.after hb) (WStep.of_below hb)
theorem WA.sg (h : WA w0 gw gg gq gf cg us wi) (j : Nat) : Safe w0 gw wi ⟨gg, j, none⟩ := .inr ⟨44, _, blk_writer h.wt h.g (by decide), by decide, h.g⟩
theorem WA.sq (h : WA w0 gw gg gq gf cg us wi) : Safe w0 gw wi ⟨gq, 0, none⟩ := .inr ⟨101, _, blk_writer h.wt h.q (by decide), by decide, h.q⟩
theorem WA.sf (h : WA w0 gw gg gq gf cg us wi) : Safe w0 gw wi ⟨gf, 0, none⟩ := .inr ⟨104, _, blk_writer h.wt h.f (by decide), by decide, h.f⟩
theorem WA.gc (h : WA w0 gw gg gq gf cg us wi) (j : Nat) : wi.cell? ⟨gg, j, none⟩ = cg[j]? := blk_cell h.g j
theorem WA.cq (h : WA w0 gw gg gq gf cg us wi) : wi.cell? ⟨gq, 0, none⟩ = some (.iface 95 (.pointer (some ⟨gw, 0, none⟩))) := (blk_cell h.q 0).trans rfl
theorem WA.cf (h : WA w0 gw gg gq gf cg us wi) : wi.cell? ⟨gf, 0, none⟩ = some (.func (.func 58) #[] #[.pointer (some ⟨gq, 0, none⟩)]) := (blk_cell h.f 0).trans rfl
end

/-- The walk over a whole graph, nothing laid down yet. -/
structure WA0 (w0 : World) (gw gg gq gf : Nat) (cg : Array Value) (us : List Int) (wi : World) : Prop where
 wt : Wx w0 gw wi us
 g : wi.heap[gg]? = some (.cells cg 44 (0, 0))
 q : wi.heap[gq]? = some (.cells #[.iface 95 (.pointer (some ⟨gw, 0, none⟩))] 101 (0, 0))
 f : wi.heap[gf]? = some (.cells #[.func (.func 58) #[] #[.pointer (some ⟨gq, 0, none⟩)]] 104 (0, 0))
theorem blk_writer0 {w0 wi : World} {gw : Nat} {bs : List Int} (h : Wx w0 gw wi bs) {k t : Nat} {cs : Array Value} (hb : wi.heap[k]? = some (.cells cs t (0, 0))) (ht : t ≠ 97) : k ≠ gw := by
 obtain ⟨v, hv, -⟩ := h.row
 exact blk_ne hb hv ht
section
variable {w0 wi wj : World} {gw gg gq gf : Nat} {cg : Array Value} {us vs : List Int}
theorem WA0.step (h : WA0 w0 gw gg gq gf cg us wi) (hw : Wt w0 gw wj vs) (hs : WStep gw wi wj) : WA w0 gw gg gq gf cg vs wj :=
 ⟨hw, hs.keep _ _ _ (blk_writer0 h.wt h.g (by decide)) (by decide) h.g, hs.keep _ _ _ (blk_writer0 h.wt h.q (by decide)) (by decide) h.q, hs.keep _ _ _ (blk_writer0 h.wt h.f (by decide)) (by decide) h.f⟩
theorem WA0.below (h : WA0 w0 gw gg gq gf cg us wi) (hb : Below wi.heap.size wi wj) : WA0 w0 gw gg gq gf cg us wj := ⟨h.wt.after hb, blk_below h.g hb, blk_below h.q hb, blk_below h.f hb⟩
theorem WA0.gc (h : WA0 w0 gw gg gq gf cg us wi) (j : Nat) : wi.cell? ⟨gg, j, none⟩ = cg[j]? := blk_cell h.g j
theorem WA0.cq (h : WA0 w0 gw gg gq gf cg us wi) : wi.cell? ⟨gq, 0, none⟩ = some (.iface 95 (.pointer (some ⟨gw, 0, none⟩))) := (blk_cell h.q 0).trans rfl
end

/-- What a writer asks of a graph's lists. -/
structure WOk (w0 : World) (L : Lay) (g : Gr) : Prop where
 rd : Rd w0 L g
 mild : Mild g
 next : 0 ≤ g.next ∧ g.next < 18446744073709551616
 nobjs : NFO w0 L.A0 g.objs.length
 nslots : NF3 w0 L.A1 g.slots.length
 nhandles : NF w0 L.A2 g.handles.length
 nqueue : NF w0 L.A4 g.queue.length
 objs : allS (fun _ o => o.f0) okW 0 g.objs
 slots : ∀ fr ∈ g.slots, fr.length ≤ 1000000 ∧ ∀ f ∈ fr, f.length ≤ 1000000 ∧ ∀ x ∈ f, 0 ≤ x + 0 ∧ x + 0 ≤ 4611686018427387905
 handles : ∀ x ∈ g.handles, 0 ≤ x + 1 ∧ x + 1 ≤ 4611686018427387905
 queue : ∀ x ∈ g.queue, 0 ≤ x + 0 ∧ x + 0 ≤ 4611686018427387905

/-- What is laid down of a graph behind the head. -/
def rest (g : Gr) : List Int := enc g.next.toNat ++ ((enc g.objs.length ++ encOs 0 g.objs) ++ (encL (encL (encL (encI 0))) g.slots ++ (encL (encI 1) g.handles ++ encL (encI 0) g.queue)))

set_option maxHeartbeats 8000000 in
set_option maxRecDepth 100000 in
theorem wall_any (w0 : World) (gw gg : Nat) (L : Lay) (g : Gr) (bs : List Int) (w : World) (h : Wx w0 gw w bs) (hg : w.heap[gg]? = some (.cells (gcells L g).toArray 44 (0, 0))) (ho : WOk w0 L g) (hbs : bs.length + (rest g).length ≤ 900000000000) :
  Calls Tryz.prog 25 #[.iface 95 (.pointer (some ⟨gw, 0, none⟩)), .pointer (some ⟨gg, 0, none⟩)] w fun e w' => e = .returned (.tuple #[]) ∧ Wt w0 gw w' (bs ++ rest g) := by
 have hmf : ∀ (fn : Fn) (first cap : Array Value) (w : World), (Instr.makeFunc fn first cap).run Tryz.prog w = .ok (.func fn first cap) w := fun _ _ _ _ => rfl
 have hst : ∀ (a : Addr) (fn : Fn) (first cap : Array Value) (w : World), (store a (.func fn first cap)).run Tryz.prog w = stored Tryz.prog w a (.func fn first cap) .plain := fun a fn first cap w => run_store Tryz.prog w a _ .plain rfl
 have hmw := method_w ⟨gw, 0, none⟩
 have hna := ahead_w ⟨gw, 0, none⟩
 unfold rest at hbs
 simp only [List.length_append] at hbs
 have HO := Aside0.mk ho
 have HW1 : Aside0 (WA0 w0 gw gg w.heap.size (w.heap.size + 1) (gcells L g).toArray bs ((w.alloc (.cells #[.iface 95 (.pointer (some ⟨gw, 0, none⟩))] 101)).alloc (.cells #[.func (.func 58) #[] #[.pointer (some ⟨w.heap.size, 0, none⟩)]] 104))) := ⟨by
  have hb : Below w.heap.size w ((w.alloc (.cells #[.iface 95 (.pointer (some ⟨gw, 0, none⟩))] 101)).alloc (.cells #[.func (.func 58) #[] #[.pointer (some ⟨w.heap.size, 0, none⟩)]] 104)) := below_alloc (below_alloc (Below.refl _ _) _) _
  refine ⟨h.after hb, blk_below hg hb, blk_alloc (heap_alloc_new w _) _, ?_⟩
  have := heap_alloc_new (w.alloc (.cells #[.iface 95 (.pointer (some ⟨gw, 0, none⟩))] 101)) (.cells #[.func (.func 58) #[] #[.pointer (some ⟨w.heap.size, 0, none⟩)]] 104)
  simpa using this⟩
 have hgl := blk_lt hg
 clear h hg ho
 go_enter Tryz.func25, Tryz.ntmps25
 go_wp2_with (fail)
 refine wp_world (p := WA0 w0 gw gg w.heap.size (w.heap.size + 1) (gcells L g).toArray bs) HW1.out ?_
 intro w1 h1
 have H1 := Aside0.mk h1
 have hq1 := h1.cq
 clear h1 HW1
 go_still_tail 7, (by kernel_rfl)
 change wpList _ _ _ _ _ w1.drew
 have HD1 := Aside0.mk (H1.out.below (below_drew (Below.refl _ _)))
 generalize w1.drew = d1 at *
 clear hq1 H1
 go_wp2_with (fail)
 have hnx : (gcells L g).toArray[5]? = some (.int .u64 (g.next.toNat : Int)) := by
  have := HO.out.next
  rw [Int.toNat_of_nonneg this.1]
  rfl
 refine (wnumber_first w0 gw ⟨gg, 5, none⟩ g.next.toNat 4611686018427387905 bs d1 HD1.out.wt ((HD1.out.gc 5).trans hnx) (by have := HO.out.next; omega) (by omega)).mono ?_
 rintro en w2 ⟨rfl, h2, h3⟩
 have H2 := Aside0.mk (HD1.out.step h2 h3)
 clear h2 h3 HD1 hnx
 go_wp2_with (fail)
 refine wp_world (p := fun w3 => WA w0 gw gg w.heap.size (w.heap.size + 1) (gcells L g).toArray (bs ++ enc g.next.toNat) w3 ∧ w3.heap[w2.heap.size]? = some (.cells #[.int .u64 0] 42 (0, 0))) ⟨H2.out.below (below_alloc (Below.refl _ _) _), heap_alloc_new w2 _⟩ ?_
 rintro w3 ⟨h3, hgl3⟩
 have HZ := Aside0.mk (show gg < w2.heap.size ∧ w.heap.size < w2.heap.size ∧ w.heap.size + 1 < w2.heap.size ∧ w0.heap.size ≤ w2.heap.size from ⟨blk_lt H2.out.g, blk_lt H2.out.q, blk_lt H2.out.f, H2.out.wt.bel.size⟩)
 have H3 := Aside0.mk h3
 have HG3 := Aside0.mk hgl3
 have hq3 := h3.cq
 clear h3 hgl3 H2
 go_still_tail 5, (by kernel_rfl)
 change wpList _ _ _ _ _ w3.drew
 have HD3 := Aside0.mk (H3.out.below (below_drew (Below.refl _ _)))
 have HDG3 : Aside0 (w3.drew.heap[w2.heap.size]? = some (.cells #[.int .u64 0] 42 (0, 0))) := HG3
 generalize w3.drew = d3 at *
 generalize w2.heap.size = gl at *
 clear hq3 H3 HG3
 go_wp2_with (fail)
 refine (wl_68_69 w0 gw gl ⟨gg, 0, none⟩ ⟨w.heap.size, 0, none⟩ ⟨w.heap.size + 1, 0, none⟩ L.A0 g.objs L.c0 _ d3 HD3.out.wt (by simp only [List.length_append]; omega) HO.out.mild.objs ((HD3.out.gc 0).trans rfl) (HD3.out.sg 0) (Nat.ne_of_lt HZ.out.1) HD3.out.cq HD3.out.sq HD3.out.cf HD3.out.sf HDG3.out HZ.out.2.2.2 (Nat.ne_of_lt HZ.out.2.1) (Nat.ne_of_lt HZ.out.2.2.1) HO.out.rd.r0 HO.out.nobjs HO.out.objs).mono ?_
 rintro en w4 ⟨rfl, h2, h3⟩
 have H4 := Aside0.mk (HD3.out.step2 h2 h3 (Nat.ne_of_lt HZ.out.1) (Nat.ne_of_lt HZ.out.2.1) (Nat.ne_of_lt HZ.out.2.2.1))
 have hq4 := H4.out.cq
 clear h2 h3 HD3 HDG3
 go_wp2_with (fail)
 go_still_tail 5, (by kernel_rfl)
 change wpList _ _ _ _ _ w4.drew
 have HD4 := Aside0.mk (H4.out.below (below_drew (Below.refl _ _)))
 generalize w4.drew = d4 at *
 clear hq4 H4
 go_wp2_with (fail)
 refine (wl_73_74 w0 gw ⟨gg, 1, none⟩ ⟨w.heap.size, 0, none⟩ ⟨w.heap.size + 1, 0, none⟩ L.A1 g.slots L.c1 _ d4 HD4.out.wt (by simp only [List.length_append]; omega) HO.out.mild.slots ((HD4.out.gc 1).trans rfl) (HD4.out.sg 1) HD4.out.cq HD4.out.sq HD4.out.cf HD4.out.sf HO.out.rd.r1 HO.out.nslots HO.out.slots).mono ?_
 rintro en w5 ⟨rfl, h2, h3⟩
 have H5 := Aside0.mk (HD4.out.step h2 h3)
 have hq5 := H5.out.cq
 clear h2 h3 HD4
 go_wp2_with (fail)
 go_still_tail 5, (by kernel_rfl)
 change wpList _ _ _ _ _ w5.drew
 have HD5 := Aside0.mk (H5.out.below (below_drew (Below.refl _ _)))
 generalize w5.drew = d5 at *
 clear hq5 H5
 go_wp2_with (fail)
 refine (wl_70_77 w0 gw ⟨gg, 2, none⟩ ⟨w.heap.size, 0, none⟩ L.A2 g.handles L.c2 _ d5 HD5.out.wt (by simp only [List.length_append]; omega) HO.out.mild.handles ((HD5.out.gc 2).trans rfl) (HD5.out.sg 2) HD5.out.cq HD5.out.sq HO.out.rd.r2 HO.out.nhandles HO.out.handles).mono ?_
 rintro en w6 ⟨rfl, h2, h3⟩
 have H6 := Aside0.mk (HD5.out.step h2 h3)
 have hq6 := H6.out.cq
 have hf6 := H6.out.cf
 clear h2 h3 HD5
 go_wp2_with (fail)
 go_still_tail 5, (by kernel_rfl)
 change wpList _ _ _ _ _ w6.drew
 have HD6 := Aside0.mk (H6.out.below (below_drew (Below.refl _ _)))
 generalize w6.drew = d6 at *
 clear hq6 hf6 H6
 go_wp2_with (fail)
 refine (wl_70_66 w0 gw ⟨gg, 4, none⟩ ⟨w.heap.size, 0, none⟩ L.A4 g.queue L.c4 _ d6 HD6.out.wt (by simp only [List.length_append]; omega) HO.out.mild.queue ((HD6.out.gc 4).trans rfl) (HD6.out.sg 4) HD6.out.cq HD6.out.sq HO.out.rd.r4 HO.out.nqueue HO.out.queue).mono ?_
 rintro en w7 ⟨rfl, h2, h3⟩
 have H7 := Aside0.mk h2
 clear h2 h3 HD6
 go_wp2_with (fail)
 go_end0
 refine ⟨rfl, ?_⟩
 have := H7.out
 unfold rest
 simpa only [List.append_assoc] using this
end Go.Proofs.YtihjjkoddphmiaaGreatDoor.img
