/-
  A graph that came in as an argument: from the reading of its data to rows that can be read and written.
-/
import Derived.Test.YtihjjkoddphmiaaGreatDoorNImgGot
import Derived.WalkKit
import Derived.ProofKit
import Derived.OpenShut
import Derived.Below
import Derived.SizedLaws
import Derived.Deep.Slices
namespace Go.Proofs.YtihjjkoddphmiaaGreatDoor.img
open Go.ChangeShapes Go.WideShapes Go.ChangeAt Go.RowKit Go.Proofs.YtihjjkoddphmiaaGreatDoorW.PrintWords Go.Proofs.YtihjjkoddphmiaaGreatDoorW.PrintLast Go.Proofs.YtihjjkoddphmiaaGreatDoor.PImageApart
set_option linter.unusedVariables false
set_option linter.unusedSimpArgs false

/-- A cell that is there and may be written. -/
def Lie (W : World) (a : Addr) : Prop := (∃ u, W.cell? a = some u) ∧ W.frozen? a = false
theorem Lie.later {W W' : World} {a : Addr} (h : Lie W a) (hb : Below W.heap.size W W') : W'.frozen? a = false := by
 obtain ⟨⟨u, hu⟩, hf⟩ := h
 have hlt := World.block_lt_of_cell? _ _ hu
 unfold World.frozen? at hf ⊢
 rw [hb.block _ hlt]
 exact hf
theorem frozen_add (W : World) (a : Addr) (k : Nat) : W.frozen? (a.add k) = W.frozen? ⟨a.block, a.off + k, none⟩ := by
 unfold World.frozen? Addr.add
 by_cases h : k = 0
 ·subst h; simp
 ·simp [h]

section
variable {H : Type} {enc : TypeId × Value → H} {W : World} {α : Type}
/-- Data of the type t read as values of the kind d, and of each F is known. -/
def Opens (enc : TypeId × Value → H) (W : World) (d : Kd α) (F : List Value → α → Prop) (t : TypeId) : Prop :=
 ∀ (fuel : Nat) (cs : List Value) (dd : DataW H) (pl : List MemPlace), DataW.trod enc Tryz.prog W 0 (fun _ => true) true fuel t cs = some (dd, pl) → W.noneFrozen pl → (∀ n ∈ dd.weights Tryz.prog t, n ≤ reachBytes) → ∃ x, d.K W x cs ∧ F cs x

theorem opens_int {k : IntKind} {t : TypeId} (ht : Tryz.prog.underlying t = some (.int k)) : Opens enc W (Kd.int k) (fun _ x => (Lit.int k x).wf = true) t := by
 intro fuel cs dd pl h _ _
 obtain ⟨z, rfl, -, hw⟩ := DataW.trod_int ht h
 exact ⟨z, rfl, hw⟩

/-- What is known of the elements of a row. -/
def Row (W : World) (d : Kd α) (F : List Value → α → Prop) (A : Option Addr) (xs : List α) : Prop :=
 xs.length ≤ 140737488355328 ∧ ∀ j x, xs[j]? = some x → ∃ ad cs, A = some ad ∧ cs.length = d.sz ∧ (∀ i u, cs[i]? = some u → W.cell? (ad.add (j * d.sz + i)) = some u) ∧ (∀ i, i < d.sz → Lie W (ad.add (j * d.sz + i))) ∧ F cs x

theorem weights_all {P : Program} {e : TypeId} : ∀ {l : List (DataW H)} {d : DataW H}, d ∈ l → ∀ n ∈ d.weights P e, n ∈ DataW.weightsAll P e l
 | a :: r, d, h, n, hn => by
  rw [DataW.weightsAll]
  rcases List.mem_cons.1 h with rfl | h
  ·exact List.mem_append_left _ hn
  ·exact List.mem_append_right _ (weights_all h n hn)

set_option maxRecDepth 100000 in
theorem opens_slice [Inhabited α] {d : Kd α} {F : List Value → α → Prop} {t e q : TypeId} (hd : Opens enc W d F e) (ht : Tryz.prog.underlying t = some (.slice e)) (hc : Tryz.prog.cellsOf e = d.sz) (hs : 1 ≤ d.sz) (hB : 1 ≤ Tryz.prog.bytesOf e) :
  Opens enc W (Kd.slice q d) (fun cs xs => ∃ A c, cs = [.slice A xs.length c] ∧ xs.length ≤ c ∧ d.C W A xs.length xs ∧ Row W d F A xs) t := by
 intro fuel cs dd pl h hnf hwt
 rcases Deep.open_slice ht h with ⟨rfl, e⟩ | ⟨a, len, cap, m, n, D, Pl, rfl, hb, hl, hm, hmm, e, hx⟩
 ·refine ⟨[], ⟨none, 0, rfl, Nat.le_refl _, Kd.C_nil _ _⟩, none, 0, rfl, Nat.le_refl _, Kd.C_nil _ _, Nat.zero_le _, fun j x hj => by simp at hj⟩
 ·simp only [if_true] at hmm
  subst hmm
  obtain ⟨rfl, rfl⟩ := Prod.mk.inj e
  rw [hc] at hx hnf
  simp only [DataW.weights, ht, List.mem_cons, List.mem_append] at hwt
  have hw0 := hwt _ (.inl rfl)
  have hlie : ∀ j, j < len → ∀ i, i < d.sz → W.frozen? (a.add (j * d.sz + i)) = false := by
   intro j hj i hi
   rw [frozen_add]
   refine hnf _ _ (List.mem_append_left _ ?_)
   unfold MemPlace.row
   refine List.mem_map.2 ⟨j * d.sz + i, List.mem_range.2 ?_, rfl⟩
   have : (j + 1) * d.sz ≤ m * d.sz := Nat.mul_le_mul_right _ (by omega)
   rw [Nat.succ_mul] at this
   omega
  have each : ∀ j, j < len → ∃ y : List Value × α, y.1.length = d.sz ∧ (∀ i u, y.1[i]? = some u → W.cell? (a.add (j * d.sz + i)) = some u) ∧ d.K W y.2 y.1 ∧ F y.1 y.2 := by
   intro j hj
   obtain ⟨cs', h1, h2⟩ := hx j (by omega)
   obtain ⟨x, hK, hF⟩ := hd n cs' (D j) (Pl j) h2 (fun b off hm => hnf b off (List.mem_append_right _ (List.mem_flatMap.2 ⟨j, List.mem_range.2 (by omega), hm⟩)))
    (fun k hk => hwt k (.inr (.inl (weights_all (List.mem_map.2 ⟨j, List.mem_range.2 hj, rfl⟩) k hk))))
   obtain ⟨_, hlen, hcell⟩ := World.cells?_some h1
   refine ⟨(cs', x), hlen, fun i u hu => ?_, hK, hF⟩
   have hi : i < d.sz := by
    rw [← hlen]
    exact (List.getElem?_eq_some_iff.1 hu).1
   have h3 := hcell i hi
   rw [Deep.add_add, hu] at h3
   exact h3
  obtain ⟨Y, hY⟩ := Deep.choose_lt each
  have hget : ∀ j x, ((List.range len).map fun j => (Y j).2)[j]? = some x → j < len ∧ x = (Y j).2 := by
   intro j x hj
   obtain ⟨hlt, e⟩ := List.getElem?_eq_some_iff.1 hj
   simp at hlt e
   exact ⟨hlt, e.symm⟩
  have hC : d.C W (some a) ((List.range len).map fun j => (Y j).2).length ((List.range len).map fun j => (Y j).2) := by
   refine ⟨rfl, by simp; exact Nat.le_trans hl hm, fun _ => ⟨a, rfl, fun j p hj => ?_⟩⟩
   obtain ⟨hlt, rfl⟩ := hget j p hj
   obtain ⟨y1, y2, y3, y4⟩ := hY j hlt
   exact ⟨(Y j).1, y1, y3, y2⟩
  have hle : ((List.range len).map fun j => (Y j).2).length = len := by simp
  refine ⟨(List.range len).map fun j => (Y j).2, ⟨some a, m, by rw [hle], by rw [hle]; exact hl, hC⟩, some a, m, by rw [hle], by rw [hle]; exact hl, hC, ?_, ?_⟩
  ·rw [hle]
   simp only [List.length_map, List.length_range] at hw0
   have h5 : len + (m - len) ≤ reachBytes := Nat.le_trans (Nat.le_mul_of_pos_right _ hB) hw0
   have h6 : reachBytes ≤ 140737488355328 := by decide
   omega
  ·intro j x hj
   obtain ⟨hlt, rfl⟩ := hget j x hj
   obtain ⟨y1, y2, y3, y4⟩ := hY j hlt
   refine ⟨a, (Y j).1, rfl, y1, y2, fun i hi => ⟨⟨_, y2 i _ (List.getElem?_eq_getElem (by omega))⟩, hlie j hlt i hi⟩, y4⟩

/-- The elements of a row of whole numbers. -/
abbrev FI (k : IntKind) : List Value → Int → Prop := fun _ x => (Lit.int k x).wf = true
abbrev FS (W : World) {β : Type} (d : Kd β) (F : List Value → β → Prop) : List Value → List β → Prop := fun cs xs => ∃ A c, cs = [.slice A xs.length c] ∧ xs.length ≤ c ∧ d.C W A xs.length xs ∧ Row W d F A xs
theorem opens_ints (q : TypeId) : Opens enc W (Kd.slice q (Kd.int .i64)) (FS W (Kd.int .i64) (FI .i64)) 25 :=
 opens_slice (opens_int Tryz.underlying3) Tryz.underlying25 (by kernel_rfl) (by decide) (of_decide_eq_true (by kernel_rfl))
theorem opens_words (q : TypeId) : Opens enc W (Kd.slice q (Kd.int .u64)) (FS W (Kd.int .u64) (FI .u64)) 64 :=
 opens_slice (opens_int Tryz.underlying42) Tryz.underlying64 (by kernel_rfl) (by decide) (of_decide_eq_true (by kernel_rfl))
theorem opens_frames (q r : TypeId) : Opens enc W (Kd.slice q (Kd.slice r (Kd.int .i64))) (FS W (Kd.slice r (Kd.int .i64)) (FS W (Kd.int .i64) (FI .i64))) 26 :=
 opens_slice (opens_ints r) Tryz.underlying26 (by kernel_rfl) (Nat.le_refl 1) (of_decide_eq_true (by kernel_rfl))
theorem opens_slots (p q r : TypeId) : Opens enc W (Kd.slice p (Kd.slice q (Kd.slice r (Kd.int .i64)))) (FS W (Kd.slice q (Kd.slice r (Kd.int .i64))) (FS W (Kd.slice r (Kd.int .i64)) (FS W (Kd.int .i64) (FI .i64)))) 34 :=
 opens_slice (opens_frames q r) Tryz.underlying34 (by kernel_rfl) (Nat.le_refl 1) (of_decide_eq_true (by kernel_rfl))

/-- What is known of an object's cells. -/
def FO (W : World) (cs : List Value) (o : S66) : Prop :=
 ∃ A3 c3 A4 c4, cs = [.int .u64 o.f0, .int .i64 o.f1, .int .i64 o.f2, .slice A3 o.f3.length c3, .slice A4 o.f4.length c4] ∧ Row W (Kd.int .i64) (FI .i64) A3 o.f3 ∧ Row W (Kd.int .u64) (FI .u64) A4 o.f4
theorem five {β : Type} {l : List β} (h : l.length = 5) : ∃ a b c d e, l = [a, b, c, d, e] := by
 match l, h with
 | [a, b, c, d, e], _ => exact ⟨a, b, c, d, e, rfl⟩
theorem six {β : Type} {l : List β} (h : l.length = 6) : ∃ a b c d e f, l = [a, b, c, d, e, f] := by
 match l, h with
 | [a, b, c, d, e, f], _ => exact ⟨a, b, c, d, e, f, rfl⟩
theorem c25 : Tryz.prog.cellsOf 42 = 1 := by kernel_rfl
theorem c3 : Tryz.prog.cellsOf 3 = 1 := by kernel_rfl
theorem c24 : Tryz.prog.cellsOf 25 = 1 := by kernel_rfl
theorem c60 : Tryz.prog.cellsOf 64 = 1 := by kernel_rfl
theorem c22 : Tryz.prog.cellsOf 41 = 1 := by kernel_rfl
theorem c23 : Tryz.prog.cellsOf 34 = 1 := by kernel_rfl
theorem c62 : Tryz.prog.cellsOf 66 = 5 := by kernel_rfl
theorem c27 : Tryz.prog.cellsOf 44 = 6 := by kernel_rfl

set_option maxRecDepth 100000 in
theorem opens_obj : Opens enc W k66 (FO W) 66 := by
 intro fuel cs dd pl h hnf hwt
 obtain ⟨xs, n, rfl, e, hlen, hxl, hf⟩ := DataW.trod_struct Tryz.underlying66 h
 obtain ⟨rfl, rfl⟩ := Prod.mk.inj e
 rw [c62] at hlen
 obtain ⟨a0, a1, a2, a3, a4, rfl⟩ := five hlen
 obtain ⟨y0, y1, y2, y3, y4, rfl⟩ := five (show xs.length = 5 from hxl)
 have h0 := hf 0 _ rfl
 have h1 := hf 1 _ rfl
 have h2 := hf 2 _ rfl
 have h3 := hf 3 _ rfl
 have h4 := hf 4 _ rfl
 simp only [c25, c3, c24, c60, List.drop, List.take, List.getElem?_cons_zero, List.getElem?_cons_succ] at h0 h1 h2 h3 h4
 have hwt : ∀ k ∈ DataW.weightsEach Tryz.prog [42, 3, 3, 25, 64] [y0.1, y1.1, y2.1, y3.1, y4.1], k ≤ reachBytes := by
  intro k hk
  refine hwt k ?_
  simp only [DataW.weights, Tryz.underlying66]
  exact hk
 have hm : ∀ y ∈ [y0, y1, y2, y3, y4], W.noneFrozen y.2 := fun y hy b off ho => hnf b off (List.mem_flatMap.2 ⟨y, hy, ho⟩)
 obtain ⟨z0, e0, -⟩ := opens_int (enc := enc) (W := W) Tryz.underlying42 _ _ _ _ h0 (hm _ (by simp)) (fun k hk => hwt k (DataW.weights_mem_each (j := 0) rfl rfl k hk))
 obtain ⟨z1, e1, -⟩ := opens_int (enc := enc) (W := W) Tryz.underlying3 _ _ _ _ h1 (hm _ (by simp)) (fun k hk => hwt k (DataW.weights_mem_each (j := 1) rfl rfl k hk))
 obtain ⟨z2, e2, -⟩ := opens_int (enc := enc) (W := W) Tryz.underlying3 _ _ _ _ h2 (hm _ (by simp)) (fun k hk => hwt k (DataW.weights_mem_each (j := 2) rfl rfl k hk))
 obtain ⟨z3, -, A3, c3, e3, l3, C3, R3⟩ := opens_ints (enc := enc) (W := W) 3 _ _ _ _ h3 (hm _ (by simp)) (fun k hk => hwt k (DataW.weights_mem_each (j := 3) rfl rfl k hk))
 obtain ⟨z4, -, A4, c4, e4, l4, C4, R4⟩ := opens_words (enc := enc) (W := W) 42 _ _ _ _ h4 (hm _ (by simp)) (fun k hk => hwt k (DataW.weights_mem_each (j := 4) rfl rfl k hk))
 injection e0 with e0 _
 injection e1 with e1 _
 injection e2 with e2 _
 injection e3 with e3 _
 injection e4 with e4 _
 subst e0 e1 e2 e3 e4
 exact ⟨⟨z0, z1, z2, z3, z4⟩, k66_mk W ⟨z0, z1, z2, z3, z4⟩ l3 C3 l4 C4, A3, c3, A4, c4, rfl, R3, R4⟩
instance : Inhabited S66 := ⟨z66⟩
theorem opens_objs (q : TypeId) : Opens enc W (Kd.slice q k66) (FS W k66 (FO W)) 41 :=
 opens_slice (q := q) opens_obj Tryz.underlying41 (by kernel_rfl) (show 1 ≤ 5 by decide) (of_decide_eq_true (by kernel_rfl))
end

section
variable {W W' : World} {α : Type}
theorem Row.later {d : Kd α} {F : List Value → α → Prop} {A : Option Addr} {xs : List α} (h : Row W d F A xs) (hb : Below W.heap.size W W') {ad : Addr} (ha : A = some ad) {j i : Nat} (hj : j < xs.length) (hi : i < d.sz) : W'.frozen? (ad.add (j * d.sz + i)) = false := by
 obtain ⟨ad', cs, e, -, -, hl, -⟩ := h.2 j _ (List.getElem?_eq_getElem hj)
 rw [ha] at e
 injection e with e
 subst e
 exact (hl i hi).later hb
theorem Row.nf {k : IntKind} {A : Option Addr} {xs : List Int} (h : Row W (Kd.int k) (FI k) A xs) (hb : Below W.heap.size W W') : NF W' A xs.length := by
 intro ad ha j hj
 have := h.later hb ha (i := 0) hj (show 0 < 1 by decide)
 simpa [Kd.int, Kd.scalar] using this
theorem Row.nf2 {q : TypeId} {A : Option Addr} {xs : List (List Int)} (h : Row W (Kd.slice q (Kd.int .i64)) (FS W (Kd.int .i64) (FI .i64)) A xs) (hb : Below W.heap.size W W') : NF2 W' A xs.length := by
 intro ad ha j hj F m f hc
 obtain ⟨ad', cs, e, -, hcell, -, A', c', rfl, -, -, hr⟩ := h.2 j _ (List.getElem?_eq_getElem hj)
 rw [ha] at e
 injection e with e
 subst e
 have h1 := pw_cell_below hb (hcell 0 _ rfl)
 have e2 : ad.add (j * (Kd.slice q (Kd.int .i64)).sz + 0) = ad.add j := by show ad.add (j * 1 + 0) = _; rw [Nat.mul_one, Nat.add_zero]
 rw [e2, hc] at h1
 injection h1 with h1
 injection h1 with h2 h3 h4
 subst h2 h3
 exact hr.nf hb
theorem Row.nf3 {q r : TypeId} {A : Option Addr} {xs : List (List (List Int))} (h : Row W (Kd.slice q (Kd.slice r (Kd.int .i64))) (FS W (Kd.slice r (Kd.int .i64)) (FS W (Kd.int .i64) (FI .i64))) A xs) (hb : Below W.heap.size W W') : NF3 W' A xs.length := by
 intro ad ha j hj F m f hc
 obtain ⟨ad', cs, e, -, hcell, -, A', c', rfl, -, -, hr⟩ := h.2 j _ (List.getElem?_eq_getElem hj)
 rw [ha] at e
 injection e with e
 subst e
 have h1 := pw_cell_below hb (hcell 0 _ rfl)
 have e2 : ad.add (j * (Kd.slice q (Kd.slice r (Kd.int .i64))).sz + 0) = ad.add j := by show ad.add (j * 1 + 0) = _; rw [Nat.mul_one, Nat.add_zero]
 rw [e2, hc] at h1
 injection h1 with h1
 injection h1 with h2 h3 h4
 subst h2 h3
 exact hr.nf2 hb
theorem add_off (ad : Addr) (a i : Nat) (h : 0 < i) : ad.add (a + i) = ⟨(ad.add a).block, (ad.add a).off + i, none⟩ := by
 unfold Addr.add
 by_cases h1 : a = 0
 ·subst h1; simp [show ¬ i = 0 by omega]
 ·simp [h1, show ¬ (a + i = 0) by omega, Nat.add_assoc]
theorem Row.nfo {A : Option Addr} {xs : List S66} (h : Row W k66 (FO W) A xs) (hb : Below W.heap.size W W') : NFO W' A xs.length := by
 intro ad ha j hj
 have f0 := h.later hb ha (i := 0) hj (show 0 < 5 by decide)
 have f1 := h.later hb ha (i := 1) hj (show 1 < 5 by decide)
 have f2 := h.later hb ha (i := 2) hj (show 2 < 5 by decide)
 have hs : k66.sz = 5 := rfl
 rw [hs] at f0 f1 f2
 rw [add_off ad (j * 5) 1 (by decide)] at f1
 rw [add_off ad (j * 5) 2 (by decide)] at f2
 refine ⟨f0, f1, f2, fun F m f hc => ?_⟩
 obtain ⟨ad', cs, e, -, hcell, -, A3, c3, A4, c4, rfl, hr, -⟩ := h.2 j _ (List.getElem?_eq_getElem hj)
 rw [ha] at e
 injection e with e
 subst e
 have h1 := pw_cell_below hb (hcell 3 _ rfl)
 rw [hs, add_off ad (j * 5) 3 (by decide), hc] at h1
 injection h1 with h1
 injection h1 with h2 h3 h4
 subst h2 h3
 exact hr.nf hb

/-- A graph that came in. -/
structure Came (W : World) (L : Lay) (g : Gr) : Prop where
 rd : Rd W L g
 roomy : Roomy g
 words : Words g
 fair : ∀ W', Below W.heap.size W W' → Fair W' L g
end

set_option maxRecDepth 100000 in
theorem opens_graph {H : Type} {enc : TypeId × Value → H} {W : World} (fuel : Nat) (cs : List Value) (dd : DataW H) (pl : List MemPlace) (h : DataW.trod enc Tryz.prog W 0 (fun _ => true) true fuel 44 cs = some (dd, pl)) (hnf : W.noneFrozen pl) (hwt : ∀ n ∈ dd.weights Tryz.prog 44, n ≤ reachBytes) :
  ∃ L g, cs = gcells L g ∧ Came W L g := by
 obtain ⟨xs, n, rfl, e, hlen, hxl, hf⟩ := DataW.trod_struct Tryz.underlying44 h
 obtain ⟨rfl, rfl⟩ := Prod.mk.inj e
 rw [c27] at hlen
 obtain ⟨a0, a1, a2, a3, a4, a5, rfl⟩ := six hlen
 obtain ⟨y0, y1, y2, y3, y4, y5, rfl⟩ := six (show xs.length = 6 from hxl)
 have h0 := hf 0 _ rfl
 have h1 := hf 1 _ rfl
 have h2 := hf 2 _ rfl
 have h3 := hf 3 _ rfl
 have h4 := hf 4 _ rfl
 have h5 := hf 5 _ rfl
 simp only [c25, c22, c23, c24, List.drop, List.take, List.getElem?_cons_zero, List.getElem?_cons_succ] at h0 h1 h2 h3 h4 h5
 have hwt : ∀ k ∈ DataW.weightsEach Tryz.prog [41, 34, 25, 25, 25, 42] [y0.1, y1.1, y2.1, y3.1, y4.1, y5.1], k ≤ reachBytes := by
  intro k hk
  refine hwt k ?_
  simp only [DataW.weights, Tryz.underlying44]
  exact hk
 have hm : ∀ y ∈ [y0, y1, y2, y3, y4, y5], W.noneFrozen y.2 := fun y hy b off ho => hnf b off (List.mem_flatMap.2 ⟨y, hy, ho⟩)
 obtain ⟨z0, -, A0, c0, e0, l0, C0, R0⟩ := opens_objs (enc := enc) (W := W) 66 _ _ _ _ h0 (hm _ (by simp)) (fun k hk => hwt k (DataW.weights_mem_each (j := 0) rfl rfl k hk))
 obtain ⟨z1, -, A1, c1, e1, l1, C1, R1⟩ := opens_slots (enc := enc) (W := W) 26 25 3 _ _ _ _ h1 (hm _ (by simp)) (fun k hk => hwt k (DataW.weights_mem_each (j := 1) rfl rfl k hk))
 obtain ⟨z2, -, A2, c2, e2, l2, C2, R2⟩ := opens_ints (enc := enc) (W := W) 3 _ _ _ _ h2 (hm _ (by simp)) (fun k hk => hwt k (DataW.weights_mem_each (j := 2) rfl rfl k hk))
 obtain ⟨z3, -, A3, c3, e3, l3, C3, R3⟩ := opens_ints (enc := enc) (W := W) 3 _ _ _ _ h3 (hm _ (by simp)) (fun k hk => hwt k (DataW.weights_mem_each (j := 3) rfl rfl k hk))
 obtain ⟨z4, -, A4, c4, e4, l4, C4, R4⟩ := opens_ints (enc := enc) (W := W) 3 _ _ _ _ h4 (hm _ (by simp)) (fun k hk => hwt k (DataW.weights_mem_each (j := 4) rfl rfl k hk))
 obtain ⟨z5, e5, -⟩ := opens_int (enc := enc) (W := W) Tryz.underlying42 _ _ _ _ h5 (hm _ (by simp)) (fun k hk => hwt k (DataW.weights_mem_each (j := 5) rfl rfl k hk))
 injection e0 with e0 _
 injection e1 with e1 _
 injection e2 with e2 _
 injection e3 with e3 _
 injection e4 with e4 _
 injection e5 with e5 _
 subst e0 e1 e2 e3 e4 e5
 have hrd : Rd W ⟨A0, A1, A2, A3, A4, c0, c1, c2, c3, c4⟩ ⟨z0, z1, z2, z3, z4, z5⟩ := ⟨C0, C1, C2, C3, C4, l0, l1, l2, l3, l4⟩
 refine ⟨⟨A0, A1, A2, A3, A4, c0, c1, c2, c3, c4⟩, ⟨z0, z1, z2, z3, z4, z5⟩, rfl, hrd, ?_, ?_, fun W' hb => ⟨hrd.below hb, R0.nfo hb, R1.nf3 hb, R2.nf hb, R4.nf hb⟩⟩
 ·refine ⟨R0.1, R1.1, R2.1, R3.1, R4.1, fun o ho => ?_, fun fr hfr => ?_⟩
  ·obtain ⟨j, hj, rfl⟩ := List.getElem_of_mem ho
   obtain ⟨_, _, _, _, _, _, B3, b3, B4, b4, -, r3, r4⟩ := R0.2 j _ (List.getElem?_eq_getElem hj)
   exact ⟨r3.1, r4.1⟩
  ·obtain ⟨j, hj, rfl⟩ := List.getElem_of_mem hfr
   obtain ⟨_, _, _, _, _, _, B, b, -, -, -, r⟩ := R1.2 j _ (List.getElem?_eq_getElem hj)
   refine ⟨r.1, fun f hf => ?_⟩
   obtain ⟨i, hi, rfl⟩ := List.getElem_of_mem hf
   obtain ⟨_, _, _, _, _, _, B2, b2, -, -, -, r2⟩ := r.2 i _ (List.getElem?_eq_getElem hi)
   exact r2.1
 ·intro o ho x hx
  obtain ⟨j, hj, rfl⟩ := List.getElem_of_mem ho
  obtain ⟨_, _, _, _, _, _, B3, b3, B4, b4, -, r3, r4⟩ := R0.2 j _ (List.getElem?_eq_getElem hj)
  obtain ⟨i, hi, rfl⟩ := List.getElem_of_mem hx
  obtain ⟨_, _, _, _, _, _, hwf⟩ := r4.2 i _ (List.getElem?_eq_getElem hi)
  have e1 : IntKind.u64.min = 0 := by decide
  have e2 : IntKind.u64.max = 18446744073709551615 := by decide
  have hwf : (Lit.int .u64 ((z0[j]'hj).f4[i]'hi)).wf = true := hwf
  change 0 ≤ ((z0[j]'hj).f4[i]'hi) ∧ ((z0[j]'hj).f4[i]'hi) < 18446744073709551616
  generalize ((z0[j]'hj).f4[i]'hi) = v at hwf ⊢
  simp [Lit.wf] at hwf
  omega
end Go.Proofs.YtihjjkoddphmiaaGreatDoor.img
