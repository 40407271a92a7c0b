import Derived.Test.YtihjjkoddphmiaaGreatDoorNIm2
import Derived.Test.YtihjjkoddphmiaaGreatDoorNSep2
import Derived.Test.YtihjjkoddphmiaaGreatDoorNIm4
import Derived.Test.YtihjjkoddphmiaaGreatDoorNIm3
import Derived.Test.YtihjjkoddphmiaaGreatDoorNImgCk
import Derived.Test.YtihjjkoddphmiaaGreatDoorNIm1
import Derived.Test.YtihjjkoddphmiaaGreatDoorNPImageApartx0
import Derived.Test.YtihjjkoddphmiaaGreatDoorNImgSum
import Derived.Test.YtihjjkoddphmiaaGreatDoorNPImageApartx23
import Derived.Laws.BitsLemmas
import Derived.Defers
import Derived.Recover
import Derived.RegionTactic
namespace Go.Proofs.YtihjjkoddphmiaaGreatDoor.img
open Go.RowKit Go.Proofs.YtihjjkoddphmiaaGreatDoorW.PrintWords Go.Proofs.YtihjjkoddphmiaaGreatDoorW.PrintMore Go.Proofs.YtihjjkoddphmiaaGreatDoor.PImageApart
set_option linter.unusedVariables false
set_option linter.unusedSimpArgs false

/-- The walk over a whole graph with a reader: where it stands. -/
structure RA (w0 w : World) (gr gg gq gf c : Nat) (B : Option Addr) (bs : List Int) (q : Nat) (cx : Array Value) (wi : World) : Prop where
 rs : RS w0 w gr gg 44 c B bs (fun _ => False) q cx wi
 q : wi.heap[gq]? = some (.cells #[.iface 82 (.pointer (some ⟨gr, 0, none⟩))] 101 (0, 0))
 f : wi.heap[gf]? = some (.cells #[.func (.func 58) #[] #[.pointer (some ⟨gq, 0, none⟩)]] 104 (0, 0))
section
variable {w0 w wi wj : World} {gr gg gq gf c q q' : Nat} {B : Option Addr} {bs : List Int} {S : Nat → Prop} {cx cx' : Array Value}
theorem RA.below (h : RA w0 w gr gg gq gf c B bs q cx wi) (hb : Below wi.heap.size wi wj) : RA w0 w gr gg gq gf c B bs q cx wj := ⟨h.rs.below hb, blk_below h.q hb, blk_below h.f hb⟩
theorem RA.step (h : RA w0 w gr gg gq gf c B bs q cx wi) (hr : Rr w0 gr B c bs q' wj) (hk : Kept wi wj S) (hS : ∀ k, S k → k = gr ∨ k = gg ∨ w.heap.size ≤ k) (hq : ¬ S gq) (hf : ¬ S gf) (hb : wj.heap[gg]? = some (.cells cx' 44 (0, 0))) : RA w0 w gr gg gq gf c B bs q' cx' wj :=
 ⟨h.rs.step hr hk (fun k e => (hS k e).elim (fun e => .inl (.inl e)) (fun e => e.elim (fun e => .inl (.inr (.inl e))) .inr)) hb, blk_kept h.q hk hq, blk_kept h.f hk hf⟩
theorem RA.cq (h : RA w0 w gr gg gq gf c B bs q cx wi) : wi.cell? ⟨gq, 0, none⟩ = some (.iface 82 (.pointer (some ⟨gr, 0, none⟩))) := (blk_cell h.q 0).trans rfl
theorem RA.cf (h : RA w0 w gr gg gq gf c B bs q cx wi) : wi.cell? ⟨gf, 0, none⟩ = some (.func (.func 58) #[] #[.pointer (some ⟨gq, 0, none⟩)]) := (blk_cell h.f 0).trans rfl
end
theorem IO_firm {w : World} {gr gg gl : Nat} {q r : Addr} (hq : q.block < w.heap.size) (hqr : q.block ≠ gr) (hqp : q.block ≠ gg) (hr : r.block < w.heap.size) (hrr : r.block ≠ gr) (hrp : r.block ≠ gg) (hl : gl < w.heap.size) (hlr : gl ≠ gr) (hlp : gl ≠ gg) : Firm w gr gg (IO gr gl q r) :=
 fun s w1 w2 h hk => ⟨IQ2_firm hq hqr hqp hr hrr hrp () w1 w2 h.1 hk, (hk gl hl hlp hlr).trans h.2.1, h.2.2⟩

/-- The parts of a graph, one behind the other. -/
def graph4 (b : List Int) (next : Int) (objs : List S66) (slots : List (List (List Int))) (handles : List Int) (p3 : Nat) : Res Gr := (ints b 0 () p3).bind fun queue p4 => .ok ⟨objs, slots, handles, [], queue.1, next⟩ p4
def graph3 (b : List Int) (next : Int) (objs : List S66) (slots : List (List (List Int))) (p2 : Nat) : Res Gr := (ints b 1 () p2).bind fun handles p3 => graph4 b next objs slots handles.1 p3
def graph2 (b : List Int) (next : Int) (objs : List S66) (p1 : Nat) : Res Gr := (lst b (frames b) () p1).bind fun slots p2 => graph3 b next objs slots.1 p2
def graph1 (b : List Int) (next : Int) (p0 : Nat) : Res Gr := (lst b (obj b) 0 p0).bind fun objs p1 => graph2 b next objs.1 p1
/-- A graph that was read into block gg. -/
structure GotG (gg base : Nat) (g : Gr) (w : World) (v0 v1 v2 v4 : Value) : Prop where
 blk : w.heap[gg]? = some (.cells #[v0, v1, v2, .slice none 0 0, v4, .int .u64 g.next] 44 (0, 0))
 r0 : k66.R 66 w base (fun _ => True) v0 g.objs
 r1 : (Kd.slice 25 (Kd.slice 3 (Kd.int .i64))).R 26 w base (fun _ => True) v1 g.slots
 r2 : (Kd.int .i64).R 3 w base (fun _ => True) v2 g.handles
 r4 : (Kd.int .i64).R 3 w base (fun _ => True) v4 g.queue
 ap : ∃ l0 u0 l1 u1 l2 u2 l4 u4, Iv k66 66 base base w v0 g.objs l0 u0 ∧ Iv (fsl 25 (Kd.slice 3 (Kd.int .i64))) 26 base u0 w v1 g.slots l1 u1 ∧ Iv (Kd.int .i64) 3 base u1 w v2 g.handles l2 u2 ∧ Iv (Kd.int .i64) 3 base u2 w v4 g.queue l4 u4

set_option maxHeartbeats 8000000 in
set_option maxRecDepth 100000 in
theorem rall_any (w0 : World) (gr gg c pos : Nat) (B : Option Addr) (bs : List Int) (w : World) (hbb : Bytes bs) (hbl : bs.length ≤ 1000000000) (h : Rr w0 gr B c bs pos w) (hg : w.heap[gg]? = some (.cells #[.slice none 0 0, .slice none 0 0, .slice none 0 0, .slice none 0 0, .slice none 0 0, .int .u64 0] 44 (0, 0))) (h0 : w0.heap.size ≤ gg) :
  Calls Tryz.prog 25 #[.iface 82 (.pointer (some ⟨gr, 0, none⟩)), .pointer (some ⟨gg, 0, none⟩)] w
   (RPost (Bd w0 w gr gg 44 6 (fun _ => False)) (graph bs pos) fun g q w' => Rr w0 gr B c bs q w' ∧ Kept w w' (fun k => k = gr ∨ k = gg) ∧ ∃ v0 v1 v2 v4, GotG gg w.heap.size g w' v0 v1 v2 v4) := by
 have hmf : ∀ (fn : Fn) (first cap : Array Value) (w : World), (Instr.makeFunc fn first cap).run Tryz.prog w = .ok (.func fn first cap) w := fun _ _ _ _ => rfl
 have hst : ∀ (a : Addr) (fn : Fn) (first cap : Array Value) (w : World), (store a (.func fn first cap)).run Tryz.prog w = stored Tryz.prog w a (.func fn first cap) .plain := fun a fn first cap w => run_store Tryz.prog w a _ .plain rfl
 have hmr := method_r ⟨gr, 0, none⟩
 have hna := ahead_r ⟨gr, 0, none⟩
 have hne : gg ≠ gr := blk_ne hg h.blk (by decide)
 have hgl := blk_lt hg
 have hrl := blk_lt h.blk
 have HZ := Aside0.mk (show gg ≠ gr ∧ gg < w.heap.size ∧ gr < w.heap.size ∧ w0.heap.size ≤ gg ∧ w0.heap.size ≤ w.heap.size from ⟨hne, hgl, hrl, h0, h.bel.size⟩)
 have HW1 : Aside0 (RA w0 w gr gg w.heap.size (w.heap.size + 1) c B bs pos #[.slice none 0 0, .slice none 0 0, .slice none 0 0, .slice none 0 0, .slice none 0 0, .int .u64 0] ((w.alloc (.cells #[.iface 82 (.pointer (some ⟨gr, 0, none⟩))] 101)).alloc (.cells #[.func (.func 58) #[] #[.pointer (some ⟨w.heap.size, 0, none⟩)]] 104))) := ⟨by
  have hb : Below w.heap.size w ((w.alloc (.cells #[.iface 82 (.pointer (some ⟨gr, 0, none⟩))] 101)).alloc (.cells #[.func (.func 58) #[] #[.pointer (some ⟨w.heap.size, 0, none⟩)]] 104)) := below_alloc (below_alloc (Below.refl _ _) _) _
  refine ⟨RS.below ⟨h, Kept.refl _ _, hg⟩ hb, blk_alloc (heap_alloc_new w _) _, ?_⟩
  have := heap_alloc_new (w.alloc (.cells #[.iface 82 (.pointer (some ⟨gr, 0, none⟩))] 101)) (.cells #[.func (.func 58) #[] #[.pointer (some ⟨w.heap.size, 0, none⟩)]] 104)
  simpa using this⟩
 obtain ⟨R, hR⟩ : ∃ R, graph bs pos = R := ⟨_, rfl⟩
 obtain ⟨N, hN⟩ : ∃ N, num bs 4611686018427387905 pos = N := ⟨_, rfl⟩
 have HR : Aside0 (N.bind (fun next p0 => graph1 bs next p0) = R) := ⟨by rw [← hN, ← hR]; rfl⟩
 rw [hR]
 have HN := Aside0.mk hN
 clear h hg hR hN hgl hrl h0
 go_enter Tryz.func25, Tryz.ntmps25
 go_wp2_with (fail)
 refine wp_world (p := RA w0 w gr gg w.heap.size (w.heap.size + 1) c B bs pos #[.slice none 0 0, .slice none 0 0, .slice none 0 0, .slice none 0 0, .slice none 0 0, .int .u64 0]) HW1.out ?_
 intro w1 h1
 have H1 := Aside0.mk h1
 have hq1 := h1.cq
 clear h1 HW1
 go_still_tail 7, (by kernel_rfl)
 change wpList _ _ _ _ _ w1.drew
 have HD1 := Aside0.mk (H1.out.below (below_drew (Below.refl _ _)))
 generalize w1.drew = d1 at *
 have HC1 := Aside0.mk (rnumber_any w0 gr gg 5 44 c pos 4611686018427387905 B bs _ d1 hbb hbl HD1.out.rs.rr HD1.out.rs.blk (by simp) hne HZ.out.2.2.2.1 (by omega))
 rw [HN.out] at HC1
 clear hq1 H1
 go_wp2_with (fail)
 refine HC1.out.mono ?_
 clear HC1
 cases N with
 | bad p code =>
  rintro en w2 ⟨rfl, hb2⟩
  exact ⟨rfl, RPost.of_bad HR.out.symm (Bd.same HD1.out.rs.kept hb2 (fun k e => e.elim))⟩
 | ok next p =>
 rintro en w2 ⟨rfl, hr2, hk2, hb2⟩
 have H2 : Aside0 (RA w0 w gr gg w.heap.size (w.heap.size + 1) c B bs p #[.slice none 0 0, .slice none 0 0, .slice none 0 0, .slice none 0 0, .slice none 0 0, .int .u64 next] w2) := ⟨HD1.out.step hr2 hk2 (fun k e => e.elim .inl (fun e => .inr (.inl e))) (by have := HZ.out; omega) (by have := HZ.out; omega) hb2⟩
 clear hr2 hk2 hb2 HD1
 go_wp2_with (fail)
 refine wp_world (p := fun w3 => RA w0 w gr gg w.heap.size (w.heap.size + 1) c B bs p #[.slice none 0 0, .slice none 0 0, .slice none 0 0, .slice none 0 0, .slice none 0 0, .int .u64 next] w3 ∧ w3.heap[w2.heap.size]? = some (.cells #[.int .u64 0] 42 (0, 0))) ⟨H2.out.below (below_alloc (Below.refl _ _) _), heap_alloc_new w2 _⟩ ?_
 rintro w3 ⟨h3, hgl3⟩
 have HY := Aside0.mk (show w.heap.size < w2.heap.size ∧ w.heap.size + 1 < w2.heap.size from ⟨blk_lt H2.out.q, blk_lt H2.out.f⟩)
 have H3 := Aside0.mk h3
 have HG3 := Aside0.mk hgl3
 have hq3 := h3.cq
 clear h3 hgl3 H2
 go_still_tail 5, (by kernel_rfl)
 change wpList _ _ _ _ _ w3.drew
 have HD3 := Aside0.mk (H3.out.below (below_drew (Below.refl _ _)))
 have HDG3 : Aside0 (w3.drew.heap[w2.heap.size]? = some (.cells #[.int .u64 0] 42 (0, 0))) := HG3
 generalize w3.drew = d3 at *
 generalize w2.heap.size = gl at *
 have HX3 := Aside0.mk (show gl < d3.heap.size ∧ w.heap.size ≤ d3.heap.size from ⟨blk_lt HDG3.out, HD3.out.rs.kept.1⟩)
 obtain ⟨K1, hK1⟩ : ∃ K, lst bs (obj bs) 0 p = K := ⟨_, rfl⟩
 have HK1 : Aside0 (K1.bind (fun objs p1 => graph2 bs next objs.1 p1) = R) := ⟨by rw [← hK1]; exact HR.out⟩
 have HC2 := Aside0.mk (rlist_68_69 w0 gr B c bs hbb hbl gg 0 44 p _ (.pointer (some ⟨gl, 0, none⟩)) (.pointer (some ⟨w.heap.size, 0, none⟩)) (.pointer (some ⟨w.heap.size + 1, 0, none⟩)) d3 HD3.out.rs.rr HD3.out.rs.blk rfl hne HZ.out.2.2.2.1 (by decide) (obj bs) 0 (IO gr gl ⟨w.heap.size, 0, none⟩ ⟨w.heap.size + 1, 0, none⟩) (fun k => k = gl)
  ⟨⟨HD3.out.cq, HD3.out.cf⟩, HDG3.out, by omega, by omega⟩ (by have h1 := HZ.out; have h2 := HY.out; have h3 := HX3.out; exact IO_firm (by simp only; omega) (by simp only; omega) (by simp only; omega) (by simp only; omega) (by simp only; omega) (by simp only; omega) (by omega) (by omega) (by omega)) (fun k e => by have h1 := HZ.out; have h2 := HY.out; have h3 := HX3.out; omega) (fun k e => by have h1 := HZ.out; have h2 := HY.out; omega)
  (by have h1 := HZ.out; have h2 := HY.out; have h3 := HX3.out; exact robj_each w0 gr gl B c bs d3.heap.size ⟨w.heap.size, 0, none⟩ ⟨w.heap.size + 1, 0, none⟩ hbb hbl (by omega) (by omega) (by simp only; omega) (by simp only; omega) (by simp only; omega) (by simp only; omega) (by omega) (by omega) (by simp only; omega) (by simp only; omega) (by omega)))
 rw [hK1] at HC2
 clear hq3 H3 HG3 hK1 HR HN
 go_wp2_with (fail)
 refine HC2.out.mono ?_
 clear HC2
 cases K1 with
 | bad p code =>
  rintro en w4 ⟨rfl, hb2⟩
  exact ⟨rfl, RPost.of_bad HK1.out.symm (Bd.same HD3.out.rs.kept hb2 (fun k e => .inr (by have := HY.out; omega)))⟩
 | ok objs p1 =>
 rintro en w4 ⟨rfl, hr4, hi4, hk4, v0, hb4, hv0⟩
 have H4 : Aside0 (RA w0 w gr gg w.heap.size (w.heap.size + 1) c B bs p1 #[v0, .slice none 0 0, .slice none 0 0, .slice none 0 0, .slice none 0 0, .int .u64 next] w4) := ⟨HD3.out.step hr4 hk4 (fun k e => by have h2 := HY.out; rcases e with e | e | e <;> omega) (by have h1 := HZ.out; have h2 := HY.out; omega) (by have h1 := HZ.out; have h2 := HY.out; omega) hb4⟩
 have HV0 := Aside0.mk (Kd.R_lower hv0.toR HX3.out.2)
 obtain ⟨l0, u0, HI0⟩ : ∃ l0 u0, Aside0 (Iv k66 66 w.heap.size w.heap.size w4 v0 objs.1 l0 u0) := ⟨_, _, ⟨Iv.of hv0 HX3.out.2 HX3.out.2 hk4.1⟩⟩
 have hq4 := H4.out.cq
 clear hr4 hi4 hk4 hb4 hv0 HD3 HDG3
 have HVv04 := HV0
 clear HV0
 go_wp2_with (fail)
 go_still_tail 5, (by kernel_rfl)
 change wpList _ _ _ _ _ w4.drew
 have HD4 := Aside0.mk (H4.out.below (below_drew (Below.refl _ _)))
 have HDv04 : Aside0 ((k66).R 66 w4.drew w.heap.size (fun _ => True) v0 objs.1) := ⟨Kd.R_below HVv04.out (below_drew (Below.refl _ _))⟩
 have HJ0 : Aside0 (Iv k66 66 w.heap.size w.heap.size w4.drew v0 objs.1 l0 u0) := ⟨HI0.out.below (below_drew (Below.refl _ _))⟩
 clear HI0
 generalize w4.drew = d4 at *
 have HX4 := Aside0.mk (show w.heap.size < d4.heap.size ∧ w.heap.size + 1 < d4.heap.size from ⟨blk_lt HD4.out.q, blk_lt HD4.out.f⟩)
 obtain ⟨K4, hK4⟩ : ∃ K, lst bs (frames bs) () p1 = K := ⟨_, rfl⟩
 have HK4 : Aside0 (K4.bind (fun slots p2 => graph3 bs next objs.1 slots.1 p2) = R) := ⟨by rw [← hK4]; exact HK1.out⟩
 have HC4 := Aside0.mk (by have h1 := HZ.out; have h2 := HX4.out; exact rlist_73_74 w0 gr B c bs hbb hbl gg 1 44 p1 _ (.pointer (some ⟨w.heap.size, 0, none⟩)) (.pointer (some ⟨w.heap.size + 1, 0, none⟩)) d4 HD4.out.rs.rr HD4.out.rs.blk rfl hne HZ.out.2.2.2.1 (by decide) (frames bs) () (IQ2 gr ⟨w.heap.size, 0, none⟩ ⟨w.heap.size + 1, 0, none⟩) (fun _ => False) ⟨HD4.out.cq, HD4.out.cf⟩ (IQ2_firm (by simp only; omega) (by simp only; omega) (by simp only; omega) (by simp only; omega) (by simp only; omega) (by simp only; omega)) (fun _ hk => hk.elim) (fun _ hk => hk.elim) (rslot_each w0 gr B c bs d4.heap.size ⟨w.heap.size, 0, none⟩ ⟨w.heap.size + 1, 0, none⟩ hbb hbl (by omega) (by omega) (by simp only; omega) (by simp only; omega) (by simp only; omega) (by simp only; omega)))
 rw [show lst bs (frames bs) () p1 = K4 from hK4] at HC4
 clear hK4 HK1 hq4 H4 HVv04
 go_wp2_with (fail)
 refine HC4.out.mono ?_
 clear HC4
 cases K4 with
 | bad p code =>
  rintro en w5 ⟨rfl, hb2⟩
  exact ⟨rfl, RPost.of_bad HK4.out.symm (Bd.same HD4.out.rs.kept hb2 (fun k e => e.elim))⟩
 | ok slots p2 =>
 rintro en w5 ⟨rfl, hr, hi, hk, v1, hb, hv⟩
 have H5 : Aside0 (RA w0 w gr gg w.heap.size (w.heap.size + 1) c B bs p2 #[v0, v1, .slice none 0 0, .slice none 0 0, .slice none 0 0, .int .u64 next] w5) := ⟨HD4.out.step hr hk (fun k e => by rcases e with e | e | e; exact .inl e; exact .inr (.inl e); exact e.elim) (fun e => by have h1 := HZ.out; rcases e with e | e | e; omega; omega; exact e) (fun e => by have h1 := HZ.out; rcases e with e | e | e; omega; omega; exact e) hb⟩
 have HVv05 := Aside0.mk (R_past HDv04.out hk (fun k e => by have h1 := HZ.out; rcases e with e | e | e; omega; omega; exact e.elim))
 have HVv15 := Aside0.mk (R_fsl (Kd.R_lower (base' := w.heap.size) hv.toR (Nat.le_of_lt HX4.out.1)))
 obtain ⟨l1, u1, HI1⟩ : ∃ l1 u1, Aside0 (Iv (fsl 25 (Kd.slice 3 (Kd.int .i64))) 26 w.heap.size u0 w5 v1 slots.1 l1 u1) := ⟨_, _, ⟨Iv.of hv (Nat.le_of_lt HX4.out.1) HJ0.out.us hk.1⟩⟩
 have HI0 := Aside0.mk (HJ0.out.kept hk (fun k e => by have h1 := HZ.out; have := HJ0.out.lo; rcases e with e | e | e; omega; omega; exact e.elim))
 have hq5 := H5.out.cq
 clear hr hi hk hb hv HD4 HDv04 HJ0
 go_wp2_with (fail)
 go_still_tail 5, (by kernel_rfl)
 change wpList _ _ _ _ _ w5.drew
 have HD5 := Aside0.mk (H5.out.below (below_drew (Below.refl _ _)))
 have HDv05 : Aside0 ((k66).R 66 w5.drew w.heap.size (fun _ => True) v0 objs.1) := ⟨Kd.R_below HVv05.out (below_drew (Below.refl _ _))⟩
 have HDv15 : Aside0 ((Kd.slice 25 (Kd.slice 3 (Kd.int .i64))).R 26 w5.drew w.heap.size (fun _ => True) v1 slots.1) := ⟨Kd.R_below HVv15.out (below_drew (Below.refl _ _))⟩
 have HJ0 : Aside0 (Iv k66 66 w.heap.size w.heap.size w5.drew v0 objs.1 l0 u0) := ⟨HI0.out.below (below_drew (Below.refl _ _))⟩
 have HJ1 : Aside0 (Iv (fsl 25 (Kd.slice 3 (Kd.int .i64))) 26 w.heap.size u0 w5.drew v1 slots.1 l1 u1) := ⟨HI1.out.below (below_drew (Below.refl _ _))⟩
 clear HI0 HI1
 generalize w5.drew = d5 at *
 have HX5 := Aside0.mk (show w.heap.size < d5.heap.size ∧ w.heap.size + 1 < d5.heap.size from ⟨blk_lt HD5.out.q, blk_lt HD5.out.f⟩)
 obtain ⟨K5, hK5⟩ : ∃ K, ints bs 1 () p2 = K := ⟨_, rfl⟩
 have HK5 : Aside0 (K5.bind (fun handles p3 => graph4 bs next objs.1 slots.1 handles.1 p3) = R) := ⟨by rw [← hK5]; exact HK4.out⟩
 have HC5 := Aside0.mk (by have h1 := HZ.out; have h2 := HX5.out; exact rlist_70_77 w0 gr B c bs hbb hbl gg 2 44 p2 _ (.pointer (some ⟨w.heap.size, 0, none⟩)) d5 HD5.out.rs.rr HD5.out.rs.blk rfl hne HZ.out.2.2.2.1 (by decide) (plain bs 1) () (IQ gr ⟨w.heap.size, 0, none⟩) (fun _ => False) HD5.out.cq (IQ_firm (by simp only; omega) (by simp only; omega) (by simp only; omega)) (fun _ hk => hk.elim) (fun _ hk => hk.elim) (rhandle_each w0 gr B c bs d5.heap.size ⟨w.heap.size, 0, none⟩ hbb hbl (by omega) (by omega) (by simp only; omega) (by simp only; omega)))
 rw [show lst bs (plain bs 1) () p2 = K5 from hK5] at HC5
 clear hK5 HK4 hq5 H5 HVv05 HVv15
 go_wp2_with (fail)
 refine HC5.out.mono ?_
 clear HC5
 cases K5 with
 | bad p code =>
  rintro en w6 ⟨rfl, hb2⟩
  exact ⟨rfl, RPost.of_bad HK5.out.symm (Bd.same HD5.out.rs.kept hb2 (fun k e => e.elim))⟩
 | ok handles p3 =>
 rintro en w6 ⟨rfl, hr, hi, hk, v2, hb, hv⟩
 have H6 : Aside0 (RA w0 w gr gg w.heap.size (w.heap.size + 1) c B bs p3 #[v0, v1, v2, .slice none 0 0, .slice none 0 0, .int .u64 next] w6) := ⟨HD5.out.step hr hk (fun k e => by rcases e with e | e | e; exact .inl e; exact .inr (.inl e); exact e.elim) (fun e => by have h1 := HZ.out; rcases e with e | e | e; omega; omega; exact e) (fun e => by have h1 := HZ.out; rcases e with e | e | e; omega; omega; exact e) hb⟩
 have HVv06 := Aside0.mk (R_past HDv05.out hk (fun k e => by have h1 := HZ.out; rcases e with e | e | e; omega; omega; exact e.elim))
 have HVv16 := Aside0.mk (R_past HDv15.out hk (fun k e => by have h1 := HZ.out; rcases e with e | e | e; omega; omega; exact e.elim))
 have HVv26 := Aside0.mk (Kd.R_lower (base' := w.heap.size) hv.toR (Nat.le_of_lt HX5.out.1))
 obtain ⟨l2, u2, HI2⟩ : ∃ l2 u2, Aside0 (Iv (Kd.int .i64) 3 w.heap.size u1 w6 v2 handles.1 l2 u2) := ⟨_, _, ⟨Iv.of hv (Nat.le_of_lt HX5.out.1) HJ1.out.us hk.1⟩⟩
 have HI0 := Aside0.mk (HJ0.out.kept hk (fun k e => by have h1 := HZ.out; have a0 := HJ0.out.lo; have b0 := HJ0.out.lu; have a1 := HJ1.out.lo; have b1 := HJ1.out.lu; rcases e with e | e | e; omega; omega; exact e.elim))
 have HI1 := Aside0.mk (HJ1.out.kept hk (fun k e => by have h1 := HZ.out; have a0 := HJ0.out.lo; have b0 := HJ0.out.lu; have a1 := HJ1.out.lo; have b1 := HJ1.out.lu; rcases e with e | e | e; omega; omega; exact e.elim))
 have hq6 := H6.out.cq
 have hf6 := H6.out.cf
 clear hr hi hk hb hv HD5 HDv05 HDv15 HJ0 HJ1
 go_wp2_with (fail)
 go_still_tail 5, (by kernel_rfl)
 change wpList _ _ _ _ _ w6.drew
 have HD6 := Aside0.mk (H6.out.below (below_drew (Below.refl _ _)))
 have HDv06 : Aside0 ((k66).R 66 w6.drew w.heap.size (fun _ => True) v0 objs.1) := ⟨Kd.R_below HVv06.out (below_drew (Below.refl _ _))⟩
 have HDv16 : Aside0 ((Kd.slice 25 (Kd.slice 3 (Kd.int .i64))).R 26 w6.drew w.heap.size (fun _ => True) v1 slots.1) := ⟨Kd.R_below HVv16.out (below_drew (Below.refl _ _))⟩
 have HDv26 : Aside0 ((Kd.int .i64).R 3 w6.drew w.heap.size (fun _ => True) v2 handles.1) := ⟨Kd.R_below HVv26.out (below_drew (Below.refl _ _))⟩
 have HJ0 : Aside0 (Iv k66 66 w.heap.size w.heap.size w6.drew v0 objs.1 l0 u0) := ⟨HI0.out.below (below_drew (Below.refl _ _))⟩
 have HJ1 : Aside0 (Iv (fsl 25 (Kd.slice 3 (Kd.int .i64))) 26 w.heap.size u0 w6.drew v1 slots.1 l1 u1) := ⟨HI1.out.below (below_drew (Below.refl _ _))⟩
 have HJ2 : Aside0 (Iv (Kd.int .i64) 3 w.heap.size u1 w6.drew v2 handles.1 l2 u2) := ⟨HI2.out.below (below_drew (Below.refl _ _))⟩
 clear HI0 HI1 HI2
 generalize w6.drew = d6 at *
 have HX6 := Aside0.mk (show w.heap.size < d6.heap.size ∧ w.heap.size + 1 < d6.heap.size from ⟨blk_lt HD6.out.q, blk_lt HD6.out.f⟩)
 obtain ⟨K6, hK6⟩ : ∃ K, ints bs 0 () p3 = K := ⟨_, rfl⟩
 have HK6 : Aside0 (K6.bind (fun queue p4 => .ok ⟨objs.1, slots.1, handles.1, [], queue.1, next⟩ p4) = R) := ⟨by rw [← hK6]; exact HK5.out⟩
 have HC6 := Aside0.mk (by have h1 := HZ.out; have h2 := HX6.out; exact rlist_70_66 w0 gr B c bs hbb hbl gg 4 44 p3 _ (.pointer (some ⟨w.heap.size, 0, none⟩)) d6 HD6.out.rs.rr HD6.out.rs.blk rfl hne HZ.out.2.2.2.1 (by decide) (plain bs 0) () (IQ gr ⟨w.heap.size, 0, none⟩) (fun _ => False) HD6.out.cq (IQ_firm (by simp only; omega) (by simp only; omega) (by simp only; omega)) (fun _ hk => hk.elim) (fun _ hk => hk.elim) (rplain_each w0 gr B c bs d6.heap.size ⟨w.heap.size, 0, none⟩ hbb hbl (by omega) (by omega) (by simp only; omega) (by simp only; omega)))
 rw [show lst bs (plain bs 0) () p3 = K6 from hK6] at HC6
 clear hK6 HK5 hq6 hf6 H6 HVv06 HVv16 HVv26
 go_wp2_with (fail)
 refine HC6.out.mono ?_
 clear HC6
 cases K6 with
 | bad p code =>
  rintro en w7 ⟨rfl, hb2⟩
  exact ⟨rfl, RPost.of_bad HK6.out.symm (Bd.same HD6.out.rs.kept hb2 (fun k e => e.elim))⟩
 | ok queue p4 =>
 rintro en w7 ⟨rfl, hr, hi, hk, v4, hb, hv⟩
 have H7 : Aside0 (RA w0 w gr gg w.heap.size (w.heap.size + 1) c B bs p4 #[v0, v1, v2, .slice none 0 0, v4, .int .u64 next] w7) := ⟨HD6.out.step hr hk (fun k e => by rcases e with e | e | e; exact .inl e; exact .inr (.inl e); exact e.elim) (fun e => by have h1 := HZ.out; rcases e with e | e | e; omega; omega; exact e) (fun e => by have h1 := HZ.out; rcases e with e | e | e; omega; omega; exact e) hb⟩
 have HVv07 := Aside0.mk (R_past HDv06.out hk (fun k e => by have h1 := HZ.out; rcases e with e | e | e; omega; omega; exact e.elim))
 have HVv17 := Aside0.mk (R_past HDv16.out hk (fun k e => by have h1 := HZ.out; rcases e with e | e | e; omega; omega; exact e.elim))
 have HVv27 := Aside0.mk (R_past HDv26.out hk (fun k e => by have h1 := HZ.out; rcases e with e | e | e; omega; omega; exact e.elim))
 have HVv47 := Aside0.mk (Kd.R_lower (base' := w.heap.size) hv.toR (Nat.le_of_lt HX6.out.1))
 obtain ⟨l4, u4, HI4⟩ : ∃ l4 u4, Aside0 (Iv (Kd.int .i64) 3 w.heap.size u2 w7 v4 queue.1 l4 u4) := ⟨_, _, ⟨Iv.of hv (Nat.le_of_lt HX6.out.1) HJ2.out.us hk.1⟩⟩
 have HI0 := Aside0.mk (HJ0.out.kept hk (fun k e => by have h1 := HZ.out; have a0 := HJ0.out.lo; have b0 := HJ0.out.lu; have a1 := HJ1.out.lo; have b1 := HJ1.out.lu; have a2 := HJ2.out.lo; have b2 := HJ2.out.lu; rcases e with e | e | e; omega; omega; exact e.elim))
 have HI1 := Aside0.mk (HJ1.out.kept hk (fun k e => by have h1 := HZ.out; have a0 := HJ0.out.lo; have b0 := HJ0.out.lu; have a1 := HJ1.out.lo; have b1 := HJ1.out.lu; have a2 := HJ2.out.lo; have b2 := HJ2.out.lu; rcases e with e | e | e; omega; omega; exact e.elim))
 have HI2 := Aside0.mk (HJ2.out.kept hk (fun k e => by have h1 := HZ.out; have a0 := HJ0.out.lo; have b0 := HJ0.out.lu; have a1 := HJ1.out.lo; have b1 := HJ1.out.lu; have a2 := HJ2.out.lo; have b2 := HJ2.out.lu; rcases e with e | e | e; omega; omega; exact e.elim))
 clear hr hi hk hb hv HD6 HDv06 HDv16 HDv26 HJ0 HJ1 HJ2
 go_wp2_with (fail)
 go_end0
 have h := H7.out.rs
 exact RPost.of_ok HK6.out.symm ⟨h.rr, h.kept.mono (fun k e => e.elim .inl (fun e => e.elim .inr (fun e => e.elim))), v0, v1, v2, v4, h.blk, HVv07.out, HVv17.out, HVv27.out, HVv47.out, l0, u0, l1, u1, l2, u2, l4, u4, HI0.out, HI1.out, HI2.out, HI4.out⟩
end Go.Proofs.YtihjjkoddphmiaaGreatDoor.img

namespace Go.Proofs.YtihjjkoddphmiaaGreatDoor.img
open Go.RowKit Go.Proofs.YtihjjkoddphmiaaGreatDoorW.PrintWords Go.Proofs.YtihjjkoddphmiaaGreatDoorW.PrintLast Go.Proofs.YtihjjkoddphmiaaGreatDoorW.PrintMore Go.Proofs.YtihjjkoddphmiaaGreatDoor.PImageApart
set_option linter.unusedVariables false
set_option linter.unusedSimpArgs false

theorem wraps_u32 (n : Int) (h₀ : 0 ≤ n) (h₁ : n < 2 ^ 32) : IntKind.u32.wrap n = n := by
 rw [IntKind.wrap_u32]
 omega
theorem xor_u32 (a b : Nat) (ha : a < 4294967296) (hb : b < 4294967296) : bits BinOp.xor IntKind.u32 (a : Int) (b : Int) = ((a ^^^ b : Nat) : Int) := by
 have hlt : a ^^^ b < 4294967296 := by
  have : (4294967296 : Nat) = 2 ^ 32 := by decide
  rw [this] at ha hb ⊢
  exact Nat.xor_lt_two_pow ha hb
 unfold bits
 have e32 : IntKind.u32.bits = 32 := rfl
 have h : ((BitVec.ofInt IntKind.u32.bits (a : Int)) ^^^ (BitVec.ofInt IntKind.u32.bits (b : Int))).toNat = a ^^^ b := by
  rw [BitVec.toNat_xor]
  simp only [BitVec.toNat_ofInt, e32]
  have e1 : ((a : Int) % ((2 ^ 32 : Nat) : Int)).toNat = a := by
   have : ((2 ^ 32 : Nat) : Int) = 4294967296 := by decide
   rw [this]
   omega
  have e2 : ((b : Int) % ((2 ^ 32 : Nat) : Int)).toNat = b := by
   have : ((2 ^ 32 : Nat) : Int) = 4294967296 := by decide
   rw [this]
   omega
  rw [e1, e2]
 simp only [h]
 exact wraps_u32 _ (by omega) (by omega)
theorem sum_l (l : List Int) (hb : Bytes l) (hl : l.length ≤ 1000000000000) : ∀ (d i s : Nat), l.length - i = d → i ≤ l.length → s < 4294967296 → Ev (fun k => image_sum.l0 k (s : Int) l (l.length : Int) (i : Int)) ((fnvFrom s (l.drop i) : Nat) : Int) := by
 intro d
 induction d with
 | zero =>
  intro i s hd hi hs
  have e : i = l.length := by omega
  subst e
  refine Ev.step (f := fun _ => some (s : Int)) (fun k => ?_) (by simpa [fnvFrom] using Ev.now (s : Int))
  simp only [image_sum.l0]
  rw [if_neg (by omega)]
 | succ d ih =>
  intro i s hd hi hs
  have hlt : i < l.length := by omega
  rw [drop_get l i 0 hlt]
  have hrd : rd l (i : Int) = l.getD i 0 := by simp [rd]
  obtain ⟨hx, hc⟩ := byte_at hb hlt
  have hf : fnvFrom s (l.getD i 0 :: l.drop (i + 1)) = fnvFrom (fstep s (l.getD i 0).toNat) (l.drop (i + 1)) := rfl
  rw [hf]
  have := ih (i + 1) (fstep s (l.getD i 0).toNat) (by omega) (by omega) (fstep_lt _ _)
  refine Ev.step (fun k => ?_) this
  simp only [image_sum.l0]
  rw [if_pos (by omega), if_pos (by omega), if_pos (by omega), hrd, wrap_small (by omega)]
  have e : (bits BinOp.xor IntKind.u32 (s : Int) ((l.getD i 0) % 4294967296)) * 16777619 % 4294967296 = ((fstep s (l.getD i 0).toNat : Nat) : Int) := by
   have e1 : (l.getD i 0) % 4294967296 = (((l.getD i 0).toNat : Nat) : Int) := by omega
   rw [e1, xor_u32 s _ hs (by omega)]
   unfold fstep
   simp
  rw [e]
  rfl
theorem sum_ev (l : List Int) (hb : Bytes l) (hl : l.length ≤ 1000000000000) : Ev (fun k => image_sum.f k l) ((fnv l : Nat) : Int) := by
 have := sum_l l hb hl l.length 0 2166136261 (by omega) (by omega) (by omega)
 simpa [image_sum.f, fnv, fnvFrom] using this

/-- A graph whose lists are all short. -/
structure Near (g : Gr) : Prop where
 objs : g.objs.length ≤ 131072
 slots : g.slots.length ≤ 131072
 handles : g.handles.length ≤ 131072
 registry : g.registry.length ≤ 131072
 queue : g.queue.length ≤ 131072
 obj : ∀ o ∈ g.objs, o.f3.length ≤ 131072 ∧ o.f4.length ≤ 131072
 frames : ∀ fr ∈ g.slots, fr.length ≤ 131072 ∧ ∀ f ∈ fr, f.length ≤ 131072
theorem Near.tame {g : Gr} (h : Near g) : Tame g :=
 ⟨⟨Nat.le_trans h.objs (by decide), Nat.le_trans h.slots (by decide), fun fr hf => Nat.le_trans (h.frames fr hf).1 (by decide), fun fr hf f hff => Nat.le_trans ((h.frames fr hf).2 f hff) (by decide), Nat.le_trans h.handles (by decide), Nat.le_trans h.registry (by decide), Nat.le_trans h.queue (by decide)⟩,
  fun o ho => ⟨Nat.le_trans (h.obj o ho).1 (by decide), Nat.le_trans (h.obj o ho).2 (by decide)⟩⟩
/-- Each list takes what a machine's memory may. -/
structure Roomy (g : Gr) : Prop where
 objs : g.objs.length ≤ 140737488355328
 slots : g.slots.length ≤ 140737488355328
 handles : g.handles.length ≤ 140737488355328
 registry : g.registry.length ≤ 140737488355328
 queue : g.queue.length ≤ 140737488355328
 obj : ∀ o ∈ g.objs, o.f3.length ≤ 140737488355328 ∧ o.f4.length ≤ 140737488355328
 frames : ∀ fr ∈ g.slots, fr.length ≤ 140737488355328 ∧ ∀ f ∈ fr, f.length ≤ 140737488355328

end Go.Proofs.YtihjjkoddphmiaaGreatDoor.img

namespace Go.Proofs.YtihjjkoddphmiaaGreatDoor.img
open Go.RowKit Go.Proofs.YtihjjkoddphmiaaGreatDoorW.PrintWords Go.Proofs.YtihjjkoddphmiaaGreatDoorW.PrintLast Go.Proofs.YtihjjkoddphmiaaGreatDoorW.PrintMore Go.Proofs.YtihjjkoddphmiaaGreatDoor.PImageApart
set_option linter.unusedVariables false
set_option linter.unusedSimpArgs false

/-- The raw words are of their kind. -/
def Words (g : Gr) : Prop := ∀ o ∈ g.objs, ∀ x ∈ o.f4, 0 ≤ x ∧ x < 18446744073709551616

theorem chk_zero {k p r s : Int} (h : chk k p r s = 0) : 1 ≤ k ∧ k < 5 ∧ 0 ≤ s ∧ s ≤ 255 := by
 unfold chk at h
 by_cases h1 : k < 1 ∨ 5 ≤ k ∨ p < need k
 ·rw [if_pos h1] at h; omega
 by_cases h2 : 4095 < p
 ·rw [if_neg h1, if_pos h2] at h; omega
 by_cases h3 : 65535 < r
 ·rw [if_neg h1, if_neg h2, if_pos h3] at h; omega
 by_cases h4 : s < 0 ∨ 255 < s
 ·rw [if_neg h1, if_neg h2, if_neg h3, if_pos h4] at h; omega
 omega
theorem objs_okW {n next : Int} (hn : n ≤ 1000000) (hx : next ≤ 4611686018427387905) : ∀ (l : List S66) (last : Int), 0 ≤ last → objsFrom n next last l = true → (∀ o ∈ l, (o.f3.length ≤ 1000000 ∧ o.f4.length ≤ 1000000) ∧ ∀ x ∈ o.f4, 0 ≤ x ∧ x < 18446744073709551616) → allS (fun _ o => o.f0) okW last l
 | [], _, _, _, _ => trivial
 | a :: r, last, h0, h, hl => by
  obtain ⟨h1, h2, h3, h4⟩ := objsFrom_mem h a (by simp)
  obtain ⟨h5, h6⟩ := hl a (by simp)
  obtain ⟨k1, k2, k3, k4⟩ := chk_zero h3
  refine ⟨⟨⟨h0, by omega, by omega⟩, by omega, by omega, ⟨h5.1, fun x hxm => by have := nums_get h4 hxm; omega⟩, h5.2, h6⟩, objs_okW hn hx r a.f0 (by omega) ?_ (fun o ho => hl o (by simp [ho]))⟩
  rw [objsFrom] at h
  by_cases t1 : a.f0 ≤ last
  ·rw [if_pos t1] at h; exact absurd h (by decide)
  by_cases t2 : next ≤ a.f0
  ·rw [if_neg t1, if_pos t2] at h; exact absurd h (by decide)
  rw [if_neg t1, if_neg t2, if_neg (by rw [h3]; simp), if_pos h4] at h
  exact h
theorem frames_len {n : Int} : ∀ (l : List (List Int)) (s : Int), 0 ≤ s → framesB n s l = true → s + l.length ≤ 4096 ∧ ∀ f ∈ l, f.length ≤ 4096
 | [], s, h0, h => by
  simp only [framesB, decide_eq_true_eq] at h
  exact ⟨by simpa using h, by simp⟩
 | a :: r, s, h0, h => by
  rw [framesB] at h
  by_cases t1 : a.length < 1
  ·rw [if_pos t1] at h; exact absurd h (by decide)
  by_cases t2 : numsB n 0 a = true
  ·rw [if_neg t1, if_pos t2] at h
   obtain ⟨h1, h2⟩ := frames_len r _ (by omega) h
   refine ⟨by simp only [List.length_cons]; omega, fun f hf => ?_⟩
   rcases List.mem_cons.1 hf with rfl | hf
   ·omega
   ·exact h2 f hf
  ·rw [if_neg t1, if_neg t2] at h; exact absurd h (by decide)

/-- What okB gives. -/
structure Good (g : Gr) : Prop where
 next : 1 ≤ g.next ∧ g.next ≤ 4611686018427387905
 objs : allS (fun _ o => o.f0) okW 0 g.objs
 slots : g.slots.length ≤ 8 ∧ ∀ fr ∈ g.slots, fr.length ≤ 4096 ∧ ∀ f ∈ fr, f.length ≤ 4096 ∧ ∀ x ∈ f, 0 ≤ x ∧ x ≤ 131072
 handles : g.handles.length ≤ 1024 ∧ ∀ x ∈ g.handles, -1 ≤ x ∧ x ≤ 131072
 queue : ∀ x ∈ g.queue, 1 ≤ x ∧ x ≤ 131072
 registry : g.registry = finals g.objs
theorem good_of {g : Gr} (hn : Near g) (hw : Words g) (h : okB g = true) : Good g := by
 unfold okB at h
 by_cases h1 : objsB g = true
 ·rw [if_pos h1] at h
  by_cases h2 : holdB g = true
  ·obtain ⟨a1, a2⟩ := objsB_mem h1
   obtain ⟨b1, b2, b3, b4, b5⟩ := holdB_mem h2
   have hol := hn.objs
   refine ⟨a1, objs_okW (by omega) (by omega) _ _ (by omega) a2 (fun o ho => ⟨hn.tame.objs o ho, hw o ho⟩), ⟨by omega, fun fr hf => ?_⟩, ⟨by omega, fun x hx => by have := nums_get b3 hx; omega⟩, fun x hx => by have := nums_get b4 hx; omega, b5.symm⟩
   have hfb := slotsB_mem b2 fr hf
   obtain ⟨c1, c2⟩ := frames_len fr 0 (by omega) hfb
   refine ⟨by omega, fun f hff => ⟨c2 f hff, fun x hx => ?_⟩⟩
   have := nums_get (framesB_mem hfb f hff).2 hx
   omega
  ·rw [if_neg h2] at h; exact absurd h (by decide)
 ·rw [if_neg h1] at h; exact absurd h (by decide)
theorem Good.wok {w0 : World} {L : Lay} {g : Gr} (h : Good g) (hn : Near g) (hr : Rd w0 L g) (h0 : NFO w0 L.A0 g.objs.length) (h1 : NF3 w0 L.A1 g.slots.length) (h2 : NF w0 L.A2 g.handles.length) (h4 : NF w0 L.A4 g.queue.length) : WOk w0 L g :=
 ⟨hr, hn.tame.mild, by have := h.next; omega, h0, h1, h2, h4, h.objs, fun fr hf => ⟨by have := (h.slots.2 fr hf).1; omega, fun f hff => ⟨by have := ((h.slots.2 fr hf).2 f hff).1; omega, fun x hx => by have := ((h.slots.2 fr hf).2 f hff).2 x hx; omega⟩⟩, fun x hx => by have := h.handles.2 x hx; omega, fun x hx => by have := h.queue x hx; omega⟩

theorem encL_len {α : Type} {E : α → List Int} {k : Nat} {l : List α} (hl : l.length < 18446744073709551616) (h : ∀ x ∈ l, (E x).length ≤ k) : (encL E l).length ≤ 10 + l.length * k := by
 have h1 := flat_len h
 have h2 := enc_ten hl
 unfold encL
 rw [List.length_append]
 omega
theorem encOs_len {k : Nat} (hk : k ≤ 131072) : ∀ (l : List S66) (last : Int), allS (fun _ o => o.f0) okW last l → (∀ o ∈ l, o.f3.length ≤ k ∧ o.f4.length ≤ k) → (encOs last l).length ≤ l.length * (50 + 20 * k)
 | [], _, _, _ => by simp [encOs]
 | a :: r, last, ha, hl => by
  have h1 := encOs_len hk r a.f0 ha.2 (fun o ho => hl o (by simp [ho]))
  obtain ⟨⟨a1, a2, a3⟩, b, c, d, e⟩ := ha.1
  have h2 := hl a (by simp)
  have e1 : (enc (a.f0 - last).toNat).length ≤ 10 := enc_ten (by omega)
  have e2 : (encI 0 a.f1).length ≤ 10 := encI_ten (by omega)
  have e3 : (encI 0 a.f2).length ≤ 10 := encI_ten (by omega)
  have e4 := encL_len (E := encI 0) (k := 10) (l := a.f3) (by omega) (fun x hx => encI_ten (by have := d.2 x hx; omega))
  have e5 := encL_len (E := encI 0) (k := 10) (l := a.f4) (by omega) (fun x hx => encI_ten (by have := e.2 x hx; omega))
  rw [encOs]
  simp only [encO, List.length_append, List.length_cons, Nat.add_mul]
  omega
theorem Good.len {g : Gr} (h : Good g) (hn : Near g) : (rest g).length ≤ 400000000000 := by
 have h1 := encOs_len (Nat.le_refl _) g.objs 0 h.objs hn.obj
 have h2 : (encL (encL (encL (encI 0))) g.slots).length ≤ 10 + g.slots.length * (10 + 4096 * (10 + 4096 * 10)) := by
  refine encL_len (by have := hn.slots; omega) (fun fr hf => ?_)
  obtain ⟨c1, c2⟩ := h.slots.2 fr hf
  refine Nat.le_trans (encL_len (k := 10 + 4096 * 10) (by omega) (fun f hff => ?_)) ?_
  ·refine Nat.le_trans (encL_len (k := 10) (by have := (c2 f hff).1; omega) (fun x hx => encI_ten (by have := (c2 f hff).2 x hx; omega))) ?_
   have := (c2 f hff).1
   omega
  ·have : fr.length * (10 + 4096 * 10) ≤ 4096 * (10 + 4096 * 10) := Nat.mul_le_mul_right _ c1
   omega
 have h3 := encL_len (E := encI 1) (k := 10) (l := g.handles) (by have := hn.handles; omega) (fun x hx => encI_ten (by have := h.handles.2 x hx; omega))
 have h4 := encL_len (E := encI 0) (k := 10) (l := g.queue) (by have := hn.queue; omega) (fun x hx => encI_ten (by have := h.queue x hx; omega))
 have h5 : (enc g.next.toNat).length ≤ 10 := enc_ten (by have := h.next; omega)
 have h6 : (enc g.objs.length).length ≤ 10 := enc_ten (by have := hn.objs; omega)
 have hs := h.slots.1
 have ho := hn.objs
 have hh := h.handles.1
 have hq := hn.queue
 have e1 : g.objs.length * (50 + 20 * 131072) ≤ 131072 * (50 + 20 * 131072) := Nat.mul_le_mul_right _ ho
 unfold rest
 simp only [List.length_append]
 omega
end Go.Proofs.YtihjjkoddphmiaaGreatDoor.img

namespace Go.Proofs.YtihjjkoddphmiaaGreatDoor.img
open Go.RowKit Go.Proofs.YtihjjkoddphmiaaGreatDoorW.PrintWords Go.Proofs.YtihjjkoddphmiaaGreatDoorW.PrintLast Go.Proofs.YtihjjkoddphmiaaGreatDoorW.PrintMore Go.Proofs.YtihjjkoddphmiaaGreatDoor.PImageApart
set_option linter.unusedVariables false
set_option linter.unusedSimpArgs false

theorem R_block {w : World} {g e base : Nat} {k : IntKind} {xs : List Int} (h : w.heap[g]? = some (.cells (encs (Value.int k) xs).toArray e (0, 0))) (hb : base ≤ g) (hl : xs.length ≤ maxLen) : (Kd.int k).R e w base (fun _ => True) (.slice (some ⟨g, 0, none⟩) xs.length xs.length) xs :=
 Kd.R_of_own ⟨by simp [encs], .inr ⟨g, xs.length, _, rfl, hb, h, Nat.le_refl _, hl, by simp [encs], by rw [Nat.mul_one, List.take_of_length_le (by simp [encs])]⟩⟩ (fun _ _ => trivial)

/-- A checksum's bytes. -/
def sb (n : Nat) : List Int := [((n % 256 : Nat) : Int), ((n / 256 % 256 : Nat) : Int), ((n / 65536 % 256 : Nat) : Int), ((n / 16777216 % 256 : Nat) : Int)]
/-- A graph's image. -/
def image (g : Gr) : List Int := body g ++ sb (fnv (body g))
theorem body_eq (g : Gr) : body g = head ++ rest g := rfl

theorem enc_bytes : ∀ n : Nat, Bytes (enc n) := by
 intro n
 induction n using Nat.strongRecOn with
 | ind n ih =>
  intro x hx
  by_cases h : n < 128
  ·rw [enc_lt h] at hx
   simp at hx
   omega
  ·rw [enc_ge h] at hx
   rcases List.mem_cons.1 hx with rfl | hx
   ·omega
   ·exact ih (n / 128) (by omega) x hx
theorem Bytes.app {a b : List Int} (h : Bytes a) (k : Bytes b) : Bytes (a ++ b) := fun x hx => (List.mem_append.1 hx).elim (h x) (k x)
theorem encL_bytes {α : Type} {E : α → List Int} (h : ∀ x, Bytes (E x)) (l : List α) : Bytes (encL E l) := by
 unfold encL
 refine (enc_bytes _).app ?_
 intro x hx
 obtain ⟨y, -, hy⟩ := List.mem_flatMap.1 hx
 exact h y x hy
theorem encI_bytes (more n : Int) : Bytes (encI more n) := enc_bytes _
theorem encOs_bytes : ∀ (l : List S66) (last : Int), Bytes (encOs last l)
 | [], _ => by intro x hx; simp [encOs] at hx
 | a :: r, last => by
  rw [encOs]
  unfold encO
  exact (((((enc_bytes _).app (encI_bytes _ _)).app (encI_bytes _ _)).app (encL_bytes (encI_bytes 0) _)).app (encL_bytes (encI_bytes 0) _)).app (encOs_bytes r _)
theorem body_bytes (g : Gr) : Bytes (body g) := by
 unfold body
 refine Bytes.app ?_ ((enc_bytes _).app (((enc_bytes _).app (encOs_bytes _ _)).app ((encL_bytes (encL_bytes (encL_bytes (encI_bytes 0))) _).app ((encL_bytes (encI_bytes 1) _).app (encL_bytes (encI_bytes 0) _)))))
 intro x hx
 simp [head] at hx
 omega
theorem sb_bytes (n : Nat) : Bytes (sb n) := by
 intro x hx
 simp [sb] at hx
 omega

set_option maxHeartbeats 8000000 in
set_option maxRecDepth 100000 in
theorem Write_bad (L : Lay) (g : Gr) (hn : Near g) (w : World) (hR : Rd w L g) (hT : Tabs w) (hok : okB g = false) :
  Calls Tryz.prog 11 #[.agg (gcells L g).toArray] w fun e w' => e = .returned (.tuple #[.slice none 0 0, .int .i64 164]) ∧ Below w.heap.size w w' := by
 obtain ⟨C, hC⟩ : ∃ C : List Value, gcells L g = C := ⟨_, rfl⟩
 have hb : Below w.heap.size w (w.alloc (.cells (gcells L g).toArray 44)) := below_alloc (Below.refl _ _) _
 have HC := Aside0.mk (Check_hand L g hn.tame (w.alloc (.cells (gcells L g).toArray 44)) (hR.below hb) (hT.below hb))
 rw [hok] at HC
 have HB := Aside0.mk hb
 rw [hC] at HC HB ⊢
 obtain ⟨v0, v1, v2, v3, v4, v5, rfl⟩ : ∃ v0 v1 v2 v3 v4 v5, C = [v0, v1, v2, v3, v4, v5] := ⟨_, _, _, _, _, _, hC.symm⟩
 clear hC hR hT hok hb
 go_enter Tryz.func11, Tryz.ntmps11
 go_wp2_with (fail)
 refine HC.out.mono ?_
 rintro en w1 ⟨rfl, hb1⟩
 have H1 := Aside0.mk (below_step HB.out hb1)
 clear hb1
 go_wp2
 go_ret2
 exact ⟨rfl, H1.out⟩

set_option maxHeartbeats 8000000 in
set_option maxRecDepth 100000 in
theorem Write_ok (L : Lay) (g : Gr) (hn : Near g) (hwd : Words g) (w : World) (hR : Rd w L g) (hT : Tabs w) (hok : okB g = true) (h0 : NFO w L.A0 g.objs.length) (h1 : NF3 w L.A1 g.slots.length) (h2 : NF w L.A2 g.handles.length) (h4 : NF w L.A4 g.queue.length) :
  Calls Tryz.prog 11 #[.agg (gcells L g).toArray] w fun e w' => ∃ v, e = .returned (.tuple #[v, .int .i64 0]) ∧ (Kd.int .u8).R 5 w' w.heap.size (fun _ => True) v (image g) ∧ Below w.heap.size w w' := by
 have hgood := good_of hn hwd hok
 have hlen := hgood.len hn
 have HWO := Aside0.mk (hgood.wok hn hR h0 h1 h2 h4)
 obtain ⟨k, hk⟩ := (sum_ev (body g) (body_bytes g) (by rw [body_eq, List.length_append]; simp [head]; omega)).rounds
 have HK := Aside0.mk hk
 have hbl : (body g).length ≤ 400000000004 := by rw [body_eq, List.length_append]; simp [head]; omega
 obtain ⟨C, hC⟩ : ∃ C : List Value, gcells L g = C := ⟨_, rfl⟩
 have HCC := Aside0.mk hC
 have hb : Below w.heap.size w (w.alloc (.cells (gcells L g).toArray 44)) := below_alloc (Below.refl _ _) _
 have HC := Aside0.mk (Check_hand L g hn.tame (w.alloc (.cells (gcells L g).toArray 44)) (hR.below hb) (hT.below hb))
 rw [hok] at HC
 have HB := Aside0.mk hb
 rw [hC] at HC HB ⊢
 obtain ⟨v0, v1, v2, v3, v4, v5, rfl⟩ : ∃ v0 v1 v2 v3 v4 v5, C = [v0, v1, v2, v3, v4, v5] := ⟨_, _, _, _, _, _, hC.symm⟩
 have hcv := fun (w : World) (C : Array Value) (n c : Nat) => Lib.run_convert_bytes_const (P := Tryz.prog) w 40 5 C n c Tryz.underlying40 Tryz.underlying5
 clear hC hR hT hok hb h0 h1 h2 h4 hk hgood
 go_enter Tryz.func11, Tryz.ntmps11
 go_wp2_with (fail)
 refine HC.out.mono ?_
 rintro en w1 ⟨rfl, hb1⟩
 have H1 := Aside0.mk (below_step HB.out hb1)
 have HG := Aside0.mk (blk_below (heap_alloc_new w (.cells #[v0, v1, v2, v3, v4, v5] 44)) hb1)
 have HL1 := Aside0.mk (blk_lt HG.out)
 clear hb1 HC
 go_wp2_with (fail)
 have HWT : Aside0 (Wx w (w1.heap.size + 1) ((w1.alloc (.cells #[.int .u8 77, .int .u8 68, .int .u8 73, .int .u8 49] 5 (4, 5))).alloc (.cells #[.slice (some ⟨w1.heap.size, 0, none⟩) 4 4] 97)) head) := ⟨by
  have hle := H1.out.size
  have hbb : Below w1.heap.size w1 ((w1.alloc (.cells #[.int .u8 77, .int .u8 68, .int .u8 73, .int .u8 49] 5 (4, 5))).alloc (.cells #[.slice (some ⟨w1.heap.size, 0, none⟩) 4 4] 97)) := below_alloc (below_alloc (Below.refl _ _) _) _
  have hnew := heap_alloc_new (w1.alloc (.cells #[.int .u8 77, .int .u8 68, .int .u8 73, .int .u8 49] 5 (4, 5))) (.cells #[.slice (some ⟨w1.heap.size, 0, none⟩) 4 4] 97)
  refine ⟨below_step H1.out hbb, by omega, _, by simpa using hnew, ?_⟩
  exact .inr ⟨⟨_, rfl, rfl, hle, blk_alloc (heap_alloc_new w1 _) _⟩⟩⟩
 have HGG : Aside0 (((w1.alloc (.cells #[.int .u8 77, .int .u8 68, .int .u8 73, .int .u8 49] 5 (4, 5))).alloc (.cells #[.slice (some ⟨w1.heap.size, 0, none⟩) 4 4] 97)).heap[w.heap.size]? = some (.cells (gcells L g).toArray 44 (0, 0))) := ⟨by rw [HCC.out]; exact blk_alloc (blk_alloc HG.out _) _⟩
 refine (wall_any w (w1.heap.size + 1) w.heap.size L g head _ HWT.out HGG.out HWO.out (by simp [head]; omega)).mono ?_
 rintro en w2 ⟨rfl, hw2⟩
 rw [← body_eq] at hw2
 obtain ⟨v, hv1, hv2⟩ := hw2.row
 obtain ⟨A, c, rfl⟩ := Kd.R_slice hv2
 have HV := Aside0.mk hv2
 have HB2 := Aside0.mk hw2.bel
 have hx2 : w2.cell? ⟨w1.heap.size + 1, 0, none⟩ = some (.slice A (body g).length c) := cell_of_one hv1
 obtain ⟨A', c', e', hcl, hcc⟩ := Kd.R_reads hv2
 injection e' with e1 e2 e3
 subst e1 e3
 have HS := Aside0.mk (image_sum.calls k A c (body g) _ w2 hcc hcl HK.out)
 have HV1 := Aside0.mk hv1
 clear hw2 hv2 hcc hcl e2 hv1 HWT HGG
 go_wp2_with (fail)
 refine HS.out.mono ?_
 rintro en w3 ⟨rfl, hd⟩
 obtain ⟨m, rfl⟩ := hd.out
 clear HS hd
 obtain ⟨N, hN⟩ : ∃ N, fnv (body g) = N := ⟨_, rfl⟩
 have HN := Aside0.mk hN
 rw [hN]
 clear hN
 have HRW : Aside0 ((Kd.int .u8).C ((w2.drewN m).alloc (.cells #[.int .u8 ((N : Int) % 256), .int .u8 ((N : Int) / 256 % 256), .int .u8 ((N : Int) / 65536 % 256), .int .u8 ((N : Int) / 16777216 % 256)] 5)) (some ⟨w2.heap.size, 0, none⟩) 4 (sb N)) := ⟨by
  have hblk := heap_alloc_new (w2.drewN m) (.cells #[.int .u8 ((N : Int) % 256), .int .u8 ((N : Int) / 256 % 256), .int .u8 ((N : Int) / 65536 % 256), .int .u8 ((N : Int) / 16777216 % 256)] 5)
  have h1 := R_block (e := 5) (base := 0) (k := .u8) (xs := sb N) (w := (w2.drewN m).alloc (.cells #[.int .u8 ((N : Int) % 256), .int .u8 ((N : Int) / 256 % 256), .int .u8 ((N : Int) / 65536 % 256), .int .u8 ((N : Int) / 16777216 % 256)] 5)) hblk (Nat.zero_le _) (by show 4 ≤ maxLen; decide)
  obtain ⟨A', c', e', -, hcc⟩ := Kd.R_reads h1
  injection e' with e1 e2 e3
  rw [← e1] at hcc
  exact hcc⟩
 have HV2 := Aside0.mk (Kd.R_below HV.out (below_alloc (pw_below_drewN (Below.refl w2.heap.size w2) m) (.cells #[.int .u8 ((N : Int) % 256), .int .u8 ((N : Int) / 256 % 256), .int .u8 ((N : Int) / 65536 % 256), .int .u8 ((N : Int) / 16777216 % 256)] 5)))
 have HB3 := Aside0.mk (below_step HB2.out (below_alloc (pw_below_drewN (Below.refl w2.heap.size w2) m) (.cells #[.int .u8 ((N : Int) % 256), .int .u8 ((N : Int) / 256 % 256), .int .u8 ((N : Int) / 65536 % 256), .int .u8 ((N : Int) / 16777216 % 256)] 5)))
 go_wp2_with (first | (refine Kd.R_append_row (w0 := w) (Value.int .u8) 0 (h1 := fun _ => rfl) w.heap.size rfl (.tmp 27) (.tmp 39) 40 5 (.int .u8 0) 1 rfl Tryz.underlying40 info5 rfl (by decide) (.slice A (body g).length c) (body g) (sb N) (some ⟨w2.heap.size, 0, none⟩) 4 4 (fun _ => True) rfl (by first | (go_simp; done) | (go_simp; rfl)) (fun _ _ => trivial) HV2.out HRW.out HB3.out HB3.out.size (by omega) ?_; intro v6 w6 ho hb hg hat; have HO6 := Aside0.mk ho; have HB6 := Aside0.mk hb; obtain ⟨A6, c6, rfl⟩ := Kd.R_slice ho; clear ho hb hg hat))
 go_ret2
 have ho : (Kd.int .u8).R 5 w6 w.heap.size (fun _ => True) (.slice A6 ((body g).length + (sb N).length) c6) (body g ++ sb N) := by
  have := HO6.out
  rw [List.length_append] at this
  exact this
 refine ⟨.slice A6 ((body g).length + (sb N).length) c6, rfl, ?_, HB6.out⟩
 unfold image
 rw [HN.out]
 exact ho
end Go.Proofs.YtihjjkoddphmiaaGreatDoor.img

namespace Go.Proofs.YtihjjkoddphmiaaGreatDoor.img
open Go.RowKit Go.Proofs.YtihjjkoddphmiaaGreatDoorW.PrintWords Go.Proofs.YtihjjkoddphmiaaGreatDoorW.PrintLast Go.Proofs.YtihjjkoddphmiaaGreatDoorW.PrintMore Go.Proofs.YtihjjkoddphmiaaGreatDoor.PImageApart
set_option linter.unusedVariables false
set_option linter.unusedSimpArgs false

/-- The head is there. -/
def beginR (b : List Int) : Res Unit := if b.length < 4 then .bad b.length 160 else if b.take 4 = head then .ok () 4 else .bad 0 161
/-- The checksum is there, and nothing behind it. -/
def endR (b : List Int) (p : Nat) : Res Unit :=
 if b.length - p < 4 then .bad b.length 160 else if (b.drop p).take 4 = sb (fnv (b.take p)) then (if p + 4 < b.length then .bad (p + 4) 162 else .ok () p) else .bad p 163

/-- A string of bytes tells them. -/
theorem str_inj : ∀ {xs ys : List Int}, Bytes xs → Bytes ys → (strOfNums xs).toList = (strOfNums ys).toList → xs = ys := by
 intro xs ys hx hy h
 rw [ByteArray.toList_eq, ByteArray.toList_eq, strOfNums_data, strOfNums_data] at h
 induction xs generalizing ys with
 | nil =>
  cases ys with
  | nil => rfl
  | cons y r => simp at h
 | cons x r ih =>
  cases ys with
  | nil => simp at h
  | cons y q =>
   simp only [List.map_cons, List.cons.injEq] at h
   have h1 := hx x (by simp)
   have h2 := hy y (by simp)
   have e := congrArg UInt8.toNat h.1
   simp at e
   rw [ih (fun z hz => hx z (by simp [hz])) (fun z hz => hy z (by simp [hz])) h.2]
   congr 1
   omega
theorem head_bytes : Bytes head := by
 intro x hx
 simp [head] at hx
 omega
theorem str_head {xs : List Int} (hb : Bytes xs) : ((strOfNums xs).toList == [77, 68, 73, 49]) = decide (xs = head) := by
 have e : (strOfNums head).toList = [77, 68, 73, 49] := by
  rw [ByteArray.toList_eq]
  rfl
 by_cases h : xs = head
 ·rw [h, e]
  simp
 ·rw [decide_eq_false h, beq_eq_false_iff_ne]
  intro k
  exact h (str_inj hb head_bytes (k.trans e.symm))

set_option maxHeartbeats 4000000 in
set_option maxRecDepth 100000 in
theorem rbegin_any (w0 : World) (gr c : Nat) (B : Option Addr) (bs : List Int) (w : World) (hbb : Bytes bs) (hbl : bs.length ≤ 1000000000) (hlc : bs.length ≤ c) (h : Rr w0 gr B c bs 0 w) :
  Calls Tryz.prog 24 #[.pointer (some ⟨gr, 0, none⟩)] w (RPost (fun w' => Kept w w' (fun k => k = gr) ∧ Below w0.heap.size w0 w') (beginR bs) fun _ q w' => Rr w0 gr B c bs q w' ∧ Kept w w' (fun k => k = gr)) := by
 have hc0 : w.cell? ⟨gr, 0, none⟩ = some (.slice B bs.length c) := (blk_cell h.blk 0).trans rfl
 have hc1 : w.cell? ⟨gr, 1, none⟩ = some (.int .i64 0) := (blk_cell h.blk 1).trans rfl
 have hf1 := blk_frozen h.blk 1
 have HR := Aside0.mk h
 obtain ⟨R, hR⟩ : ∃ R, beginR bs = R := ⟨_, rfl⟩
 have HH := Aside0.mk hR
 rw [hR]
 clear hR h
 by_cases hl : bs.length < 4
 ·have HB : Aside0 (R = .bad bs.length 160) := ⟨by rw [← HH.out]; unfold beginR; rw [if_pos hl]⟩
  have HC := Aside0.mk (rshort_any w0 gr c 0 B bs w HR.out)
  have p1 : (bs.length : Int) < 4 := by omega
  go_enter Tryz.func24, Tryz.ntmps24
  go_wp2_with (fail)
  refine HC.out.mono ?_
  rintro e w' ⟨rfl, rfl⟩
  exact ⟨rfl, RPost.of_bad HB.out ⟨Kept.refl _ _, HR.out.bel⟩⟩
 have p1 : ¬ (bs.length : Int) < 4 := by omega
 have p2 : (4 : Int) ≤ (c : Int) := by omega
 have hC := Kd.C_take (m := 4) (Kd.C_below HR.out.row HR.out.bel) (by omega)
 have hlen : (bs.take 4).length = 4 := by rw [List.length_take]; omega
 rw [hlen] at hC
 have hcv := Kd.C_string (P := Tryz.prog) (A := B) (c := c) Tryz.underlying40 Tryz.underlying5 Tryz.underlying9 hC
 have hsh := str_head (xs := bs.take 4) (fun x hx => hbb x (List.mem_of_mem_take hx))
 by_cases hd : bs.take 4 = head
 ·have HB : Aside0 (R = .ok () 4) := ⟨by rw [← HH.out]; unfold beginR; rw [if_neg hl, if_pos hd]⟩
  rw [decide_eq_true hd] at hsh
  generalize hs : strOfNums (bs.take 4) = s at *
  clear hs hd hC hlen
  go_enter Tryz.func24, Tryz.ntmps24
  go_wp2_with (fail)
  go_end0
  exact RPost.of_ok HB.out ⟨HR.out.set (q := 4) (by omega), Kept.setCell (S := fun k => k = gr) (p := ⟨gr, 1, none⟩) (Kept.refl w _) (.inl rfl) _⟩
 ·have HB : Aside0 (R = .bad 0 161) := ⟨by rw [← HH.out]; unfold beginR; rw [if_neg hl, if_neg hd]⟩
  rw [decide_eq_false hd] at hsh
  generalize hs : strOfNums (bs.take 4) = s at *
  clear hs hd hC hlen
  go_enter Tryz.func24, Tryz.ntmps24
  go_wp2_with (fail)
  exact ⟨rfl, RPost.of_bad HB.out ⟨Kept.refl _ _, HR.out.bel⟩⟩

theorem add_pos (a : Addr) {k : Nat} (h : 0 < k) : a.add k = ⟨a.block, a.off + k, none⟩ := by unfold Addr.add; split <;> simp_all
theorem sb_get (N : Nat) : (sb N).getD 0 0 = (N : Int) % 256 ∧ (sb N).getD 1 0 = (N : Int) / 256 % 256 ∧ (sb N).getD 2 0 = (N : Int) / 65536 % 256 ∧ (sb N).getD 3 0 = (N : Int) / 16777216 % 256 := by
 refine ⟨?_, ?_, ?_, ?_⟩ <;> simp [sb]
theorem four_eq {b : List Int} {p N : Nat} (h : ¬ b.length - p < 4) (hj : ∀ j, j < 4 → b.getD (p + j) 0 = (sb N).getD j 0) : (b.drop p).take 4 = sb N := by
 apply List.ext_getElem?
 intro j
 by_cases hj4 : j < 4
 ·have := hj j hj4
  rw [List.getElem?_take, if_pos hj4, List.getElem?_drop]
  rw [List.getD_eq_getElem?_getD, List.getD_eq_getElem?_getD, List.getElem?_eq_getElem (by omega), List.getElem?_eq_getElem (by show j < 4; exact hj4)] at this
  rw [List.getElem?_eq_getElem (by omega), List.getElem?_eq_getElem (by show j < 4; exact hj4)]
  simpa using this
 ·rw [List.getElem?_eq_none (by rw [List.length_take]; omega), List.getElem?_eq_none (by show 4 ≤ j; omega)]
theorem four_ne {b : List Int} {p N j : Nat} (h : ¬ b.length - p < 4) (hj4 : j < 4) (hj : b.getD (p + j) 0 ≠ (sb N).getD j 0) : ¬ (b.drop p).take 4 = sb N := by
 intro e
 apply hj
 rw [← e, List.getD_eq_getElem?_getD, List.getD_eq_getElem?_getD, List.getElem?_take, if_pos hj4, List.getElem?_drop]

set_option maxHeartbeats 8000000 in
set_option maxRecDepth 100000 in
theorem rend_any (w0 : World) (gr c p : Nat) (B : Option Addr) (bs : List Int) (w : World) (hbb : Bytes bs) (hbl : bs.length ≤ 1000000000) (hlc : bs.length ≤ c) (h : Rr w0 gr B c bs p w) :
  Calls Tryz.prog 26 #[.pointer (some ⟨gr, 0, none⟩)] w (RPost (fun w' => Below w.heap.size w w' ∧ Below w0.heap.size w0 w') (endR bs p) fun _ q w' => Below w.heap.size w w') := by
 have hc0 : w.cell? ⟨gr, 0, none⟩ = some (.slice B bs.length c) := (blk_cell h.blk 0).trans rfl
 have hc1 : w.cell? ⟨gr, 1, none⟩ = some (.int .i64 p) := (blk_cell h.blk 1).trans rfl
 have HR := Aside0.mk h
 have hple := h.le
 obtain ⟨R, hR⟩ : ∃ R, endR bs p = R := ⟨_, rfl⟩
 have HH := Aside0.mk hR
 rw [hR]
 clear hR h
 have hwr : IntKind.i64.wrap ((bs.length : Int) - (p : Int)) = (bs.length : Int) - p := by rw [IntKind.wrap_i64]; omega
 by_cases hl : bs.length - p < 4
 ·have HB : Aside0 (R = .bad bs.length 160) := ⟨by rw [← HH.out]; unfold endR; rw [if_pos hl]⟩
  have HC : Aside0 (∀ nq, Calls Tryz.prog 57 #[.pointer (some ⟨gr, 0, none⟩)] (w.drewN nq) fun e w' => e = .panicked (failed bs.length 160) ∧ w.drewN nq = w') := ⟨fun nq => rshort_any w0 gr c p B bs _ (HR.out.below (pw_below_drewN (Below.refl _ _) nq))⟩
  have p1 : (bs.length : Int) - (p : Int) < 4 := by omega
  have t1 : decide ((bs.length : Int) - (p : Int) < 4) = true := by simp only [decide_eq_true_eq]; omega
  clear hl
  go_enter Tryz.func26, Tryz.ntmps26
  go_wp2_with (fail)
  go_quiet (fail)
  go_wp2_with (fail)
  refine (HC.out _).mono ?_
  rintro e w' ⟨rfl, rfl⟩
  exact ⟨rfl, RPost.of_bad HB.out ⟨pw_below_drewN (Below.refl _ _) _, pw_below_drewN HR.out.bel _⟩⟩
 have HL := Aside0.mk hl
 have p1 : ¬ (bs.length : Int) - (p : Int) < 4 := by omega
 have t1 : decide ((bs.length : Int) - (p : Int) < 4) = false := by simp only [decide_eq_false_iff_not]; omega
 have p2 : (p : Int) ≤ (c : Int) := by omega
 have hpb : p + 4 ≤ bs.length := by omega
 obtain ⟨k, hk⟩ := (sum_ev (bs.take p) (fun x hx => hbb x (List.mem_of_mem_take hx)) (by rw [List.length_take]; omega)).rounds
 have hlen : (bs.take p).length = p := by rw [List.length_take]; omega
 have HS : Aside0 (∀ wx, Below w0.heap.size w0 wx → Calls Tryz.prog 37 #[.slice B p c] wx fun e w' => e = .returned (.int .u32 ((fnv (bs.take p) : Nat) : Int)) ∧ Drawn0 wx w') := ⟨fun wx hx => by
  have hC := Kd.C_take (m := p) (Kd.C_below HR.out.row hx) (by omega)
  have := image_sum.calls k B c (bs.take p) _ wx hC (by rw [hlen]; omega) hk
  rw [hlen] at this
  exact this⟩
 obtain ⟨N, hN⟩ : ∃ N, fnv (bs.take p) = N := ⟨_, rfl⟩
 have HN := Aside0.mk hN
 rw [hN] at HS
 clear hN hk hlen hl
 go_enter Tryz.func26, Tryz.ntmps26
 go_wp2_with (fail)
 go_quiet (fail)
 go_wp2_with (fail)
 refine wp_world (p := fun w1 => Rr w0 gr B c bs p w1 ∧ Below w.heap.size w w1) ⟨HR.out.below (pw_below_drewN (Below.refl _ _) _), pw_below_drewN (Below.refl _ _) _⟩ ?_
 rintro w1 ⟨h1, hb1⟩
 have H1 := Aside0.mk h1
 have HB1 := Aside0.mk hb1
 have hd0 : w1.cell? ⟨gr, 0, none⟩ = some (.slice B bs.length c) := (blk_cell h1.blk 0).trans rfl
 have hd1 : w1.cell? ⟨gr, 1, none⟩ = some (.int .i64 p) := (blk_cell h1.blk 1).trans rfl
 clear h1 hb1 hc0 hc1
 go_still_tail 9, (by kernel_rfl)
 change wpList _ _ _ _ _ w1.drew
 go_wp2_with (fail)
 refine (HS.out _ (below_drew1 H1.out.bel)).mono ?_
 rintro en w2 ⟨rfl, hd⟩
 obtain ⟨m, rfl⟩ := hd.out
 clear hd HS
 go_wp2_with (fail)
 refine wp_world (p := fun w2 => Rr w0 gr B c bs p w2 ∧ Below w.heap.size w w2) ⟨H1.out.below (pw_below_drewN (Below.refl _ _) _), below_step HB1.out (pw_below_drewN (Below.refl _ _) _)⟩ ?_
 rintro w2 ⟨h2, hb2⟩
 have H2 := Aside0.mk h2
 have HB2 := Aside0.mk hb2
 clear h2 hb2 hd0 hd1
 go_loopw [27] (fun a wr => ∃ (i : Nat), a = .int .i64 i ∧ i ≤ 4 ∧ Aside0 (∀ j, j < i → bs.getD (p + j) 0 = (sb N).getD j 0) ∧ Aside0 (Rr w0 gr B c bs p wr ∧ Below w.heap.size w wr)) (fun a _ => 4 - (intOf a).toNat)
 case atStart => exact ⟨0, rfl, by omega, ⟨fun j hj => absurd hj (by omega)⟩, ⟨H2.out, HB2.out⟩⟩
 case round =>
  clear H2 HB2 H1 HB1
  obtain ⟨i, rfl, hi, HJ, HRB⟩ := hrel
  have hc0 : wr.cell? ⟨gr, 0, none⟩ = some (.slice B bs.length c) := (blk_cell HRB.out.1.blk 0).trans rfl
  have hc1 : wr.cell? ⟨gr, 1, none⟩ = some (.int .i64 p) := (blk_cell HRB.out.1.blk 1).trans rfl
  obtain ⟨s0, s1, s2, s3⟩ := sb_get N
  have HSB := Aside0.mk (And.intro s0 (And.intro s1 (And.intro s2 s3)))
  clear s0 s1 s2 s3
  by_cases h4 : i = 4
  ·subst h4
   have hw4 : IntKind.i64.wrap ((p : Int) + 4) = (p : Int) + 4 := by rw [IntKind.wrap_i64]; omega
   by_cases hm : p + 4 < bs.length
   ·have HB : Aside0 (R = .bad (p + 4) 162) := ⟨by rw [← HH.out]; unfold endR; rw [if_neg HL.out, HN.out, if_pos (four_eq HL.out HJ.out), if_pos hm]⟩
    have t2 : decide ((p : Int) + 4 < (bs.length : Int)) = true := by simp only [decide_eq_true_eq]; omega
    have p3 : (p : Int) + 4 < (bs.length : Int) := by omega
    clear hm
    go_wp2_with (fail)
    go_quiet (fail)
    go_wp2_with (fail)
    exact ⟨rfl, RPost.of_bad (q := p + 4) HB.out ⟨below_step HRB.out.2 (pw_below_drewN (Below.refl _ _) _), pw_below_drewN HRB.out.1.bel _⟩⟩
   ·have HB : Aside0 (R = .ok () p) := ⟨by rw [← HH.out]; unfold endR; rw [if_neg HL.out, HN.out, if_pos (four_eq HL.out HJ.out), if_neg hm]⟩
    have t2 : decide ((p : Int) + 4 < (bs.length : Int)) = false := by simp only [decide_eq_false_iff_not]; omega
    have p3 : ¬ (p : Int) + 4 < (bs.length : Int) := by omega
    clear hm
    go_wp2_with (fail)
    go_quiet (fail)
    go_wp2_with (fail)
    go_end0
    exact RPost.of_ok HB.out (below_step HRB.out.2 (pw_below_drewN (Below.refl _ _) _))
  obtain ⟨ad, rfl, hcell⟩ := Kd.at_int HRB.out.1.row ((p + i : Nat) : Int) (by omega) (by omega)
  obtain ⟨hx, hy⟩ := byte_at hbb (show p + i < bs.length by omega)
  have hrd : rd bs ((p + i : Nat) : Int) = bs.getD (p + i) 0 := by unfold rd; rw [Int.toNat_natCast]
  rw [hrd, hx] at hcell
  simp only [Int.toNat_natCast] at hcell
  have HX := Aside0.mk hx
  clear hrd hx
  generalize (bs.getD (p + i) 0).toNat = y at hcell hy HX
  have hblk : (ad.add (p + i)).block < w0.heap.size := World.block_lt_of_cell? _ _ hcell
  have hcw : wr.cell? (ad.add (p + i)) = some (.int .u8 y) := (cell_block (HRB.out.1.bel.block _ hblk)).trans hcell
  clear hcell hblk
  rcases (show i = 0 ∨ i = 1 ∨ i = 2 ∨ i = 3 by omega) with rfl | rfl | rfl | rfl
  ·have hsb : (sb N).getD 0 0 = (N : Int) % 256 := HSB.out.1
   have HSBI := Aside0.mk hsb
   clear hsb
   have hwi : IntKind.i64.wrap (p : Int) = p := by rw [IntKind.wrap_i64]; omega
   have q0 : (0 : Int) ≤ (p : Int) := by omega
   have q1 : (p : Int) < (bs.length : Int) := by omega
   have hcw2 : wr.cell? (ad.add p) = some (.int .u8 y) := hcw
   by_cases hcmp : (y : Int) = (N : Int) % 256
   ·have t3 : ((y : Int) != (N : Int) % 256) = false := by simp only [bne_eq_false_iff_eq]; exact hcmp
    have HJ2 : Aside0 (∀ j, j < 0 + 1 → bs.getD (p + j) 0 = (sb N).getD j 0) := ⟨fun j hj => by
     by_cases e : j = 0
     ·subst e
      rw [HX.out, HSBI.out, hcmp]
     ·exact HJ.out j (by omega)⟩
    have HCM := Aside0.mk hcmp
    clear hcmp
    go_wp2_with (fail)
    go_quiet (fail)
    go_wp2_with (fail)
    go_roundw
    case rel => exact ⟨0 + 1, by go_num, by omega, HJ2, ⟨HRB.out.1.below (pw_below_drewN (Below.refl _ _) _), below_step HRB.out.2 (pw_below_drewN (Below.refl _ _) _)⟩⟩
    case measure => simp [intOf]
   ·have t3 : ((y : Int) != (N : Int) % 256) = true := by simp only [bne_iff_ne]; exact hcmp
    have HB : Aside0 (R = .bad p 163) := ⟨by rw [← HH.out]; unfold endR; rw [if_neg HL.out, HN.out, if_neg (four_ne HL.out (show 0 < 4 by omega) (by rw [HX.out, HSBI.out]; exact hcmp))]⟩
    clear hcmp
    go_wp2_with (fail)
    go_quiet (fail)
    go_wp2_with (fail)
    exact ⟨rfl, RPost.of_bad HB.out ⟨below_step HRB.out.2 (pw_below_drewN (Below.refl _ _) _), pw_below_drewN HRB.out.1.bel _⟩⟩
  ·have hsb : (sb N).getD 1 0 = (N : Int) / 256 % 256 := HSB.out.2.1
   have HSBI := Aside0.mk hsb
   clear hsb
   have hwi : IntKind.i64.wrap ((p : Int) + 1) = (p : Int) + 1 := by rw [IntKind.wrap_i64]; omega
   have hnn : ((p : Int) + 1).toNat = p + 1 := by omega
   have q0 : (0 : Int) ≤ (p : Int) + 1 := by omega
   have q1 : (p : Int) + 1 < (bs.length : Int) := by omega
   have hcw2 : wr.cell? ⟨ad.block, ad.off + (p + 1), none⟩ = some (.int .u8 y) := by rw [← add_pos ad (by omega)]; exact hcw
   by_cases hcmp : (y : Int) = (N : Int) / 256 % 256
   ·have t3 : ((y : Int) != (N : Int) / 256 % 256) = false := by simp only [bne_eq_false_iff_eq]; exact hcmp
    have HJ2 : Aside0 (∀ j, j < 1 + 1 → bs.getD (p + j) 0 = (sb N).getD j 0) := ⟨fun j hj => by
     by_cases e : j = 1
     ·subst e
      rw [HX.out, HSBI.out, hcmp]
     ·exact HJ.out j (by omega)⟩
    have HCM := Aside0.mk hcmp
    clear hcmp
    go_wp2_with (fail)
    go_quiet (fail)
    go_wp2_with (fail)
    go_roundw
    case rel => exact ⟨1 + 1, by go_num, by omega, HJ2, ⟨HRB.out.1.below (pw_below_drewN (Below.refl _ _) _), below_step HRB.out.2 (pw_below_drewN (Below.refl _ _) _)⟩⟩
    case measure => simp [intOf]
   ·have t3 : ((y : Int) != (N : Int) / 256 % 256) = true := by simp only [bne_iff_ne]; exact hcmp
    have HB : Aside0 (R = .bad p 163) := ⟨by rw [← HH.out]; unfold endR; rw [if_neg HL.out, HN.out, if_neg (four_ne HL.out (show 1 < 4 by omega) (by rw [HX.out, HSBI.out]; exact hcmp))]⟩
    clear hcmp
    go_wp2_with (fail)
    go_quiet (fail)
    go_wp2_with (fail)
    exact ⟨rfl, RPost.of_bad HB.out ⟨below_step HRB.out.2 (pw_below_drewN (Below.refl _ _) _), pw_below_drewN HRB.out.1.bel _⟩⟩
  ·have hsb : (sb N).getD 2 0 = (N : Int) / 65536 % 256 := HSB.out.2.2.1
   have HSBI := Aside0.mk hsb
   clear hsb
   have hwi : IntKind.i64.wrap ((p : Int) + 2) = (p : Int) + 2 := by rw [IntKind.wrap_i64]; omega
   have hnn : ((p : Int) + 2).toNat = p + 2 := by omega
   have q0 : (0 : Int) ≤ (p : Int) + 2 := by omega
   have q1 : (p : Int) + 2 < (bs.length : Int) := by omega
   have hcw2 : wr.cell? ⟨ad.block, ad.off + (p + 2), none⟩ = some (.int .u8 y) := by rw [← add_pos ad (by omega)]; exact hcw
   by_cases hcmp : (y : Int) = (N : Int) / 65536 % 256
   ·have t3 : ((y : Int) != (N : Int) / 65536 % 256) = false := by simp only [bne_eq_false_iff_eq]; exact hcmp
    have HJ2 : Aside0 (∀ j, j < 2 + 1 → bs.getD (p + j) 0 = (sb N).getD j 0) := ⟨fun j hj => by
     by_cases e : j = 2
     ·subst e
      rw [HX.out, HSBI.out, hcmp]
     ·exact HJ.out j (by omega)⟩
    have HCM := Aside0.mk hcmp
    clear hcmp
    go_wp2_with (fail)
    go_quiet (fail)
    go_wp2_with (fail)
    go_roundw
    case rel => exact ⟨2 + 1, by go_num, by omega, HJ2, ⟨HRB.out.1.below (pw_below_drewN (Below.refl _ _) _), below_step HRB.out.2 (pw_below_drewN (Below.refl _ _) _)⟩⟩
    case measure => simp [intOf]
   ·have t3 : ((y : Int) != (N : Int) / 65536 % 256) = true := by simp only [bne_iff_ne]; exact hcmp
    have HB : Aside0 (R = .bad p 163) := ⟨by rw [← HH.out]; unfold endR; rw [if_neg HL.out, HN.out, if_neg (four_ne HL.out (show 2 < 4 by omega) (by rw [HX.out, HSBI.out]; exact hcmp))]⟩
    clear hcmp
    go_wp2_with (fail)
    go_quiet (fail)
    go_wp2_with (fail)
    exact ⟨rfl, RPost.of_bad HB.out ⟨below_step HRB.out.2 (pw_below_drewN (Below.refl _ _) _), pw_below_drewN HRB.out.1.bel _⟩⟩
  ·have hsb : (sb N).getD 3 0 = (N : Int) / 16777216 % 256 := HSB.out.2.2.2
   have HSBI := Aside0.mk hsb
   clear hsb
   have hwi : IntKind.i64.wrap ((p : Int) + 3) = (p : Int) + 3 := by rw [IntKind.wrap_i64]; omega
   have hnn : ((p : Int) + 3).toNat = p + 3 := by omega
   have q0 : (0 : Int) ≤ (p : Int) + 3 := by omega
   have q1 : (p : Int) + 3 < (bs.length : Int) := by omega
   have hcw2 : wr.cell? ⟨ad.block, ad.off + (p + 3), none⟩ = some (.int .u8 y) := by rw [← add_pos ad (by omega)]; exact hcw
   by_cases hcmp : (y : Int) = (N : Int) / 16777216 % 256
   ·have t3 : ((y : Int) != (N : Int) / 16777216 % 256) = false := by simp only [bne_eq_false_iff_eq]; exact hcmp
    have HJ2 : Aside0 (∀ j, j < 3 + 1 → bs.getD (p + j) 0 = (sb N).getD j 0) := ⟨fun j hj => by
     by_cases e : j = 3
     ·subst e
      rw [HX.out, HSBI.out, hcmp]
     ·exact HJ.out j (by omega)⟩
    have HCM := Aside0.mk hcmp
    clear hcmp
    go_wp2_with (fail)
    go_quiet (fail)
    go_wp2_with (fail)
    go_roundw
    case rel => exact ⟨3 + 1, by go_num, by omega, HJ2, ⟨HRB.out.1.below (pw_below_drewN (Below.refl _ _) _), below_step HRB.out.2 (pw_below_drewN (Below.refl _ _) _)⟩⟩
    case measure => simp [intOf]
   ·have t3 : ((y : Int) != (N : Int) / 16777216 % 256) = true := by simp only [bne_iff_ne]; exact hcmp
    have HB : Aside0 (R = .bad p 163) := ⟨by rw [← HH.out]; unfold endR; rw [if_neg HL.out, HN.out, if_neg (four_ne HL.out (show 3 < 4 by omega) (by rw [HX.out, HSBI.out]; exact hcmp))]⟩
    clear hcmp
    go_wp2_with (fail)
    go_quiet (fail)
    go_wp2_with (fail)
    exact ⟨rfl, RPost.of_bad HB.out ⟨below_step HRB.out.2 (pw_below_drewN (Below.refl _ _) _), pw_below_drewN HRB.out.1.bel _⟩⟩
end Go.Proofs.YtihjjkoddphmiaaGreatDoor.img

namespace Go.Proofs.YtihjjkoddphmiaaGreatDoor.img
open Go.RowKit Go.Proofs.YtihjjkoddphmiaaGreatDoorW.PrintWords Go.Proofs.YtihjjkoddphmiaaGreatDoorW.PrintMore Go.Proofs.YtihjjkoddphmiaaGreatDoor.PImageApart
set_option linter.unusedVariables false
set_option linter.unusedSimpArgs false

set_option maxHeartbeats 4000000 in
set_option maxRecDepth 100000 in
theorem catch_idle (p q r : Addr) (w : World) :
  CallsD Tryz.prog 23 #[.pointer (some p), .pointer (some q), .pointer (some r)] .returning w fun e u' w' => e = .returned (.tuple #[]) ∧ u' = .returning ∧ w' = w := by
 refine callsD_of_wpS Tryz.func23 rfl fun c₀ cs hu => ?_
 apply wpS_seq
 apply wpS_region
 simp [wpOpsS, go_sem, recoverD, hu, Tryz.ntmps23, Exit.thenS]
 refine wpS_of_wp ?_
 change Code.wp _ _ _ ⟨#[.pointer (some p), .pointer (some q), .pointer (some r), undef, undef, undef, .nilIface, undef, undef, undef, undef, undef, undef, undef, undef, undef, undef], []⟩ _
 go_wp2_with (fail)
 cases c₀
 simp_all [bodyPostS, results, Tryz.results23]

theorem in_world {n : Nat} {Q : Exit → Act → World → Prop} {e : Exit} {a : Act} {w1 : World} {p : World → Prop} (h : p w1) (k : ∀ w2, p w2 → Exit.inBlock n Q e a w2) : Exit.inBlock n Q e a w1 := k w1 h
theorem in_normal {n : Nat} {Q : Exit → Act → World → Prop} {a : Act} {w1 : World} (h : Q .normal a w1) : Exit.inBlock n Q .normal a w1 := h
theorem assert_fail (a : Array Value) (w : World) : (Instr.typeAssert (.iface 81 (.agg a)) 20 81 true).run Tryz.prog w = .ok (.tuple #[.agg a, .bool true]) w := by kernel_rfl

set_option maxHeartbeats 8000000 in
set_option maxRecDepth 100000 in
theorem catch_failed (Bb gg ga ge : Nat) (x y : Int) (cg : Array Value) (v1 v2 : Value) (older : List PanicEntry) (w : World) (hg : w.heap[gg]? = some (.cells cg 44 (0, 0))) (hcg : cg.size = 6) (ha : w.heap[ga]? = some (.cells #[v1] 3 (0, 0))) (he : w.heap[ge]? = some (.cells #[v2] 50 (0, 0))) (hB : Bb ≤ gg ∧ Bb ≤ ga ∧ Bb ≤ ge) :
  CallsD Tryz.prog 23 #[.pointer (some ⟨gg, 0, none⟩), .pointer (some ⟨ga, 0, none⟩), .pointer (some ⟨ge, 0, none⟩)] (.panicking ({ v := .iface 81 (.agg #[.int .i64 x, .int .i64 y]), recovered := false } :: older)) w fun e u' w' =>
   e = .returned (.tuple #[]) ∧ u' = .panicking ({ v := .iface 81 (.agg #[.int .i64 x, .int .i64 y]), recovered := true } :: older) ∧ Below Bb w w' ∧ Kept w w' (fun k => k = gg ∨ k = ga ∨ k = ge) ∧
    w'.heap[gg]? = some (.cells #[.slice none 0 0, .slice none 0 0, .slice none 0 0, .slice none 0 0, .slice none 0 0, .int .u64 0] 44 (0, 0)) ∧ w'.heap[ga]? = some (.cells #[.int .i64 x] 3 (0, 0)) ∧ w'.heap[ge]? = some (.cells #[.int .i64 y] 50 (0, 0)) := by
 have has := assert_fail
 refine callsD_of_wpS Tryz.func23 rfl fun c₀ cs hu => ?_
 apply wpS_seq
 apply wpS_region
 simp [wpOpsS, go_sem, recoverD, hu, Tryz.ntmps23, Exit.thenS]
 refine wpS_of_wp ?_
 change Code.wp _ _ _ ⟨#[.pointer (some ⟨gg, 0, none⟩), .pointer (some ⟨ga, 0, none⟩), .pointer (some ⟨ge, 0, none⟩), undef, undef, undef, .iface 81 (.agg #[.int .i64 x, .int .i64 y]), undef, undef, undef, undef, undef, undef, undef, undef, undef, undef], []⟩ _
 go_wp2_with (fail)
 obtain ⟨g0, g1, g2, g3, g4, g5, rfl⟩ : ∃ g0 g1 g2 g3 g4 g5, cg = #[g0, g1, g2, g3, g4, g5] := by
  match cg, hcg with
  | ⟨[g0, g1, g2, g3, g4, g5]⟩, _ => exact ⟨g0, g1, g2, g3, g4, g5, rfl⟩
 have n1 : gg ≠ ga := blk_ne hg ha (by decide)
 have n2 : gg ≠ ge := blk_ne hg he (by decide)
 have n3 : ga ≠ ge := blk_ne ha he (by decide)
 have l1 := blk_lt hg
 have l2 := blk_lt ha
 have l3 := blk_lt he
 refine wp_world (p := fun w1 => Below w.heap.size w w1 ∧ w1.heap[w.heap.size]? = some (.cells #[.int .i64 x, .int .i64 y] 81 (0, 0))) ⟨below_alloc (Below.refl _ _) _, heap_alloc_new w _⟩ ?_
 rintro w1 ⟨hb1, hx⟩
 have HB := Aside0.mk hb1
 have HG := Aside0.mk (blk_below hg hb1)
 have HA := Aside0.mk (blk_below ha hb1)
 have HE := Aside0.mk (blk_below he hb1)
 have n4 : w.heap.size ≠ gg := by omega
 have n5 : w.heap.size ≠ ga := by omega
 have n6 : w.heap.size ≠ ge := by omega
 have x0 : w1.cell? ⟨w.heap.size, 0, none⟩ = some (.int .i64 x) := (blk_cell hx 0).trans rfl
 have x1 : w1.cell? ⟨w.heap.size, 1, none⟩ = some (.int .i64 y) := (blk_cell hx 1).trans rfl
 have a0 : w1.cell? ⟨ga, 0, none⟩ = some v1 := (blk_cell HA.out 0).trans rfl
 have e0 : w1.cell? ⟨ge, 0, none⟩ = some v2 := (blk_cell HE.out 0).trans rfl
 have c0 : w1.cell? ⟨gg, 0, none⟩ = some g0 := (blk_cell HG.out 0).trans rfl
 have c1 : w1.cell? ⟨gg, 1, none⟩ = some g1 := (blk_cell HG.out 1).trans rfl
 have c2 : w1.cell? ⟨gg, 2, none⟩ = some g2 := (blk_cell HG.out 2).trans rfl
 have c3 : w1.cell? ⟨gg, 3, none⟩ = some g3 := (blk_cell HG.out 3).trans rfl
 have c4 : w1.cell? ⟨gg, 4, none⟩ = some g4 := (blk_cell HG.out 4).trans rfl
 have c5 : w1.cell? ⟨gg, 5, none⟩ = some g5 := (blk_cell HG.out 5).trans rfl
 have fa := blk_frozen HA.out 0
 have fe := blk_frozen HE.out 0
 have f0 := blk_frozen HG.out 0
 have f1 := blk_frozen HG.out 1
 have f2 := blk_frozen HG.out 2
 have f3 := blk_frozen HG.out 3
 have f4 := blk_frozen HG.out 4
 have f5 := blk_frozen HG.out 5
 have HBB := Aside0.mk hB
 have HLT := Aside0.mk l1
 clear hb1 hx hg ha he l1 l2 l3 hcg hB
 go_region
 refine in_world (p := fun w' => Below Bb w w' ∧ Kept w w' (fun k => k = gg ∨ k = ga ∨ k = ge) ∧ w'.heap[gg]? = some (.cells #[.slice none 0 0, .slice none 0 0, .slice none 0 0, .slice none 0 0, .slice none 0 0, .int .u64 0] 44 (0, 0)) ∧ w'.heap[ga]? = some (.cells #[.int .i64 x] 3 (0, 0)) ∧ w'.heap[ge]? = some (.cells #[.int .i64 y] 50 (0, 0))) ⟨?_, ?_, ?_, ?_, ?_⟩ ?_
 ·refine below_drew ?_
  have k0 : Below Bb w w1 := ⟨HB.out.os, HB.out.tape, HB.out.output, HB.out.size, fun k hk => HB.out.block k (by have := HBB.out; have := HLT.out; omega)⟩
  have hB := HBB.out
  exact (((((((k0.setCell (p := ⟨gg, 0, none⟩) hB.1 _).setCell (p := ⟨gg, 1, none⟩) hB.1 _).setCell (p := ⟨gg, 2, none⟩) hB.1 _).setCell (p := ⟨gg, 3, none⟩) hB.1 _).setCell (p := ⟨gg, 4, none⟩) hB.1 _).setCell (p := ⟨gg, 5, none⟩) hB.1 _).setCell (p := ⟨ga, 0, none⟩) hB.2.1 _).setCell (p := ⟨ge, 0, none⟩) hB.2.2 _
 ·refine Kept.drew ?_
  have k0 := (Kept.of_below HB.out (fun k => k = gg ∨ k = ga ∨ k = ge))
  exact (((((((k0.setCell (p := ⟨gg, 0, none⟩) (.inl (.inl rfl)) _).setCell (p := ⟨gg, 1, none⟩) (.inl (.inl rfl)) _).setCell (p := ⟨gg, 2, none⟩) (.inl (.inl rfl)) _).setCell (p := ⟨gg, 3, none⟩) (.inl (.inl rfl)) _).setCell (p := ⟨gg, 4, none⟩) (.inl (.inl rfl)) _).setCell (p := ⟨gg, 5, none⟩) (.inl (.inl rfl)) _).setCell (p := ⟨ga, 0, none⟩) (.inl (.inr (.inl rfl))) _).setCell (p := ⟨ge, 0, none⟩) (.inl (.inr (.inr rfl))) _
 ·have k0 := blk_set (blk_set (blk_set (blk_set (blk_set (blk_set HG.out 0 (.slice none 0 0)) 1 (.slice none 0 0)) 2 (.slice none 0 0)) 3 (.slice none 0 0)) 4 (.slice none 0 0)) 5 (.int .u64 0)
  refine blk_drew ?_
  exact blk_far (blk_far k0 n1 _) n2 _
 ·have k0 := fun (w2 : World) (h : w2.heap[ga]? = some (.cells #[v1] 3 (0, 0))) => blk_set h 0 (.int .i64 x)
  refine blk_drew ?_
  refine blk_far (k0 _ ?_) n3 _
  exact blk_far (blk_far (blk_far (blk_far (blk_far (blk_far HA.out (fun e => n1 e.symm) _) (fun e => n1 e.symm) _) (fun e => n1 e.symm) _) (fun e => n1 e.symm) _) (fun e => n1 e.symm) _) (fun e => n1 e.symm) _
 ·have k0 := fun (w2 : World) (h : w2.heap[ge]? = some (.cells #[v2] 50 (0, 0))) => blk_set h 0 (.int .i64 y)
  refine blk_drew ?_
  refine k0 _ ?_
  exact blk_far (blk_far (blk_far (blk_far (blk_far (blk_far (blk_far HE.out (fun e => n2 e.symm) _) (fun e => n2 e.symm) _) (fun e => n2 e.symm) _) (fun e => n2 e.symm) _) (fun e => n2 e.symm) _) (fun e => n2 e.symm) _) (fun e => n3 e.symm) _
 intro w9 h9
 have H9 := Aside0.mk h9
 clear h9
 refine in_normal ?_
 refine ⟨rfl, _, rfl, .tuple #[], by simp [results, Tryz.results23], rfl, rfl, H9.out⟩
end Go.Proofs.YtihjjkoddphmiaaGreatDoor.img

namespace Go.Proofs.YtihjjkoddphmiaaGreatDoor.img
open Go.RowKit Go.Proofs.YtihjjkoddphmiaaGreatDoorW.PrintWords Go.Proofs.YtihjjkoddphmiaaGreatDoorW.PrintLast Go.Proofs.YtihjjkoddphmiaaGreatDoorW.PrintMore Go.Proofs.YtihjjkoddphmiaaGreatDoor.PImageApart
set_option linter.unusedVariables false
set_option linter.unusedSimpArgs false

section
variable {σ α : Type}
theorem many_all {each : σ → Nat → Res (α × σ)} {ok : α → Prop} (h : ∀ s pos x p, each s pos = .ok x p → ok x.1) : ∀ (n : Nat) (s : σ) (pos : Nat) (y : List α × σ) (p : Nat), many each n s pos = .ok y p → y.1.length = n ∧ ∀ x ∈ y.1, ok x
 | 0, s, pos, y, p, hh => by
  injection hh with h1 h2
  subst h1
  simp
 | n + 1, s, pos, y, p, hh => by
  rw [many] at hh
  obtain ⟨x, p1, h1, h2⟩ := bind_ok hh
  obtain ⟨z, p2, h3, h4⟩ := bind_ok h2
  injection h4 with h4 h5
  subst h4
  obtain ⟨a, b⟩ := many_all h n _ _ _ _ h3
  refine ⟨by simp [a], fun w hw => ?_⟩
  rcases List.mem_cons.1 hw with rfl | hw
  ·exact h _ _ _ _ h1
  ·exact b w hw
theorem lst_all {b : List Int} {each : σ → Nat → Res (α × σ)} {ok : α → Prop} (h : ∀ s pos x p, each s pos = .ok x p → ok x.1) {s : σ} {pos p : Nat} {y : List α × σ} (hh : lst b each s pos = .ok y p) : y.1.length ≤ b.length ∧ ∀ x ∈ y.1, ok x := by
 unfold lst at hh
 obtain ⟨n, q, h1, h2⟩ := bind_ok hh
 by_cases hc : b.length - q < n
 ·rw [if_pos hc] at h2; cases h2
 rw [if_neg hc] at h2
 obtain ⟨a, c⟩ := many_all h _ _ _ _ _ h2
 exact ⟨by omega, c⟩
end
theorem ints_all {b : List Int} {more : Int} {s : Unit} {pos p : Nat} {y : List Int × Unit} (h : ints b more s pos = .ok y p) : y.1.length ≤ b.length := (lst_all (ok := fun _ => True) (fun _ _ _ _ _ => trivial) h).1
theorem frames_all {b : List Int} {s : Unit} {pos p : Nat} {y : List (List Int) × Unit} (h : frames b s pos = .ok y p) : y.1.length ≤ b.length ∧ ∀ f ∈ y.1, f.length ≤ b.length := lst_all (ok := fun f => f.length ≤ b.length) (fun _ _ _ _ h => ints_all h) h
theorem numAt_le {b : List Int} {most from_ : Nat} : ∀ (d i pos acc n p : Nat), 10 - i = d → numAt b most from_ i pos acc = .ok n p → n ≤ most := by
 intro d
 induction d with
 | zero =>
  intro i pos acc n p hd h
  rw [numAt, if_pos (by omega)] at h
  cases h
 | succ d ih =>
  intro i pos acc n p hd h
  rw [numAt, if_neg (by omega)] at h
  by_cases hp : b.length ≤ pos
  ·rw [if_pos hp] at h; cases h
  rw [if_neg hp] at h
  generalize (b.getD pos 0).toNat = c at *
  simp only at h
  by_cases hw : (i = 9 ∧ 1 < c % 128 ∧ c < 128) ∨ (0 < i ∧ c = 0)
  ·rw [if_pos hw] at h; cases h
  rw [if_neg hw] at h
  by_cases hlt : c < 128
  ·rw [if_pos hlt] at h
   by_cases hm : most < acc + c * 128 ^ i
   ·rw [if_pos hm] at h; cases h
   ·rw [if_neg hm] at h
    injection h with h1 h2
    omega
  ·rw [if_neg hlt] at h
   exact ih (i + 1) _ _ _ _ (by omega) h
theorem raw_all {b : List Int} {s : Unit} {pos p : Nat} {y : Int × Unit} (h : raw b s pos = .ok y p) : 0 ≤ y.1 ∧ y.1 < 18446744073709551616 := by
 obtain ⟨n, q, h1, h2⟩ := bind_ok h
 injection h2 with h2 h3
 subst h2
 have := numAt_le _ _ _ _ _ _ rfl h1
 unfold any64 at this
 simp only
 omega
theorem obj_all {b : List Int} {s : Int} {pos p : Nat} {y : S66 × Int} (h : obj b s pos = .ok y p) : (y.1.f3.length ≤ b.length ∧ y.1.f4.length ≤ b.length) ∧ ∀ x ∈ y.1.f4, 0 ≤ x ∧ x < 18446744073709551616 := by
 unfold obj at h
 obtain ⟨step, p0, h0, h⟩ := bind_ok h
 obtain ⟨kind', p1, h1, h⟩ := bind_ok h
 obtain ⟨site', p2, h2, h⟩ := bind_ok h
 obtain ⟨ptrs, p3, h3, h⟩ := bind_ok h
 obtain ⟨raws, p4, h4, h⟩ := bind_ok h
 injection h with h e2
 subst h
 have a := lst_all (ok := fun x : Int => 0 ≤ x ∧ x < 18446744073709551616) (fun _ _ _ _ h => raw_all h) h4
 exact ⟨⟨ints_all h3, a.1⟩, a.2⟩

/-- What is read of a whole graph. -/
structure Fits (n : Nat) (g : Gr) : Prop where
 objs : g.objs.length ≤ n
 slots : g.slots.length ≤ n
 handles : g.handles.length ≤ n
 queue : g.queue.length ≤ n
 obj : ∀ o ∈ g.objs, o.f3.length ≤ n ∧ o.f4.length ≤ n
 frames : ∀ fr ∈ g.slots, fr.length ≤ n ∧ ∀ f ∈ fr, f.length ≤ n
 next : 0 ≤ g.next ∧ g.next ≤ 4611686018427387905
 words : Words g
theorem graph_fits {b : List Int} {pos p : Nat} {g : Gr} (h : graph b pos = .ok g p) : Fits b.length g := by
 unfold graph at h
 obtain ⟨next, p0, h0, h⟩ := bind_ok h
 obtain ⟨objs, p1, h1, h⟩ := bind_ok h
 obtain ⟨slots, p2, h2, h⟩ := bind_ok h
 obtain ⟨handles, p3, h3, h⟩ := bind_ok h
 obtain ⟨queue, p4, h4, h⟩ := bind_ok h
 injection h with h e
 subst h
 have a := lst_all (ok := fun o : S66 => (o.f3.length ≤ b.length ∧ o.f4.length ≤ b.length) ∧ ∀ x ∈ o.f4, 0 ≤ x ∧ x < 18446744073709551616) (fun _ _ _ _ h => obj_all h) h1
 have c := lst_all (ok := fun fr : List (List Int) => fr.length ≤ b.length ∧ ∀ f ∈ fr, f.length ≤ b.length) (fun _ _ _ _ h => frames_all h) h2
 have d := numAt_le _ _ _ _ _ _ rfl h0
 unfold great at d
 exact ⟨a.1, c.1, ints_all h3, ints_all h4, fun o ho => (a.2 o ho).1, c.2, ⟨by simp only; omega, by simp only; omega⟩, fun o ho => (a.2 o ho).2⟩
/-- The registry is told of the objects. -/
def whole (g : Gr) : Gr := { g with registry := finals g.objs }
theorem Fits.tame {n : Nat} {g : Gr} (h : Fits n g) (hn : n ≤ 1000000) : Tame (whole g) := by
 have h1 := h.objs
 have h2 := h.slots
 have h3 := h.handles
 have h4 := h.queue
 have h5 := finalsFrom_len g.objs 0
 exact ⟨⟨by show g.objs.length ≤ _; omega, by show g.slots.length ≤ _; omega, fun fr hf => by have := (h.frames fr hf).1; omega, fun fr hf f hff => by have := (h.frames fr hf).2 f hff; omega, by show g.handles.length ≤ _; omega, by show (finals g.objs).length ≤ _; unfold finals; omega, by show g.queue.length ≤ _; omega⟩,
  fun o ho => by have := h.obj o ho; omega⟩
end Go.Proofs.YtihjjkoddphmiaaGreatDoor.img

namespace Go.Proofs.YtihjjkoddphmiaaGreatDoor.img
open Go.RowKit Go.Proofs.YtihjjkoddphmiaaGreatDoorW.PrintWords Go.Proofs.YtihjjkoddphmiaaGreatDoorW.PrintLast Go.Proofs.YtihjjkoddphmiaaGreatDoorW.PrintMore Go.Proofs.YtihjjkoddphmiaaGreatDoor.PImageApart
set_option linter.unusedVariables false
set_option linter.unusedSimpArgs false

/-- What bytes say. -/
def readR (b : List Int) : Res Gr :=
 (beginR b).bind fun _ p => (graph b p).bind fun g p1 => (endR b p1).bind fun _ _ => if okB (whole g) = true then .ok (whole g) 0 else .bad 0 164

/-- A graph that was handed back. -/
structure Got (w w' : World) (g : Gr) (v0 v1 v2 v3 v4 : Value) : Prop where
 r0 : k66.R 66 w' w.heap.size (fun _ => True) v0 g.objs
 r1 : (Kd.slice 25 (Kd.slice 3 (Kd.int .i64))).R 26 w' w.heap.size (fun _ => True) v1 g.slots
 r2 : (Kd.int .i64).R 3 w' w.heap.size (fun _ => True) v2 g.handles
 r3 : (Kd.int .i64).R 3 w' w.heap.size (fun _ => True) v3 g.registry
 r4 : (Kd.int .i64).R 3 w' w.heap.size (fun _ => True) v4 g.queue
/-- The same, its lists apart. -/
structure GotA (w w' : World) (g : Gr) (v0 v1 v2 v3 v4 : Value) : Prop where
 got : Got w w' g v0 v1 v2 v3 v4
 ap : ∃ l0 u0 l1 u1 l2 u2 l4 u4 l3 u3, Iv k66 66 w.heap.size w.heap.size w' v0 g.objs l0 u0 ∧ Iv (fsl 25 (Kd.slice 3 (Kd.int .i64))) 26 w.heap.size u0 w' v1 g.slots l1 u1 ∧ Iv (Kd.int .i64) 3 w.heap.size u1 w' v2 g.handles l2 u2 ∧ Iv (Kd.int .i64) 3 w.heap.size u2 w' v4 g.queue l4 u4 ∧ Iv (Kd.int .i64) 3 w.heap.size u4 w' v3 g.registry l3 u3
/-- What Read comes to. -/
def ReadPost (w : World) (r : Res Gr) (e : Ending) (w' : World) : Prop :=
 Below w.heap.size w w' ∧ match r with
 | .ok g _ => ∃ v0 v1 v2 v3 v4, e = .returned (.tuple #[.agg #[v0, v1, v2, v3, v4, .int .u64 g.next], .int .i64 0, .int .i64 0]) ∧ Got w w' g v0 v1 v2 v3 v4
 | .bad q c => e = .returned (.tuple #[.agg #[.slice none 0 0, .slice none 0 0, .slice none 0 0, .slice none 0 0, .slice none 0 0, .int .u64 0], .int .i64 q, .int .i64 c])

def ReadPostA (w : World) (r : Res Gr) (e : Ending) (w' : World) : Prop :=
 Below w.heap.size w w' ∧ match r with
 | .ok g _ => ∃ v0 v1 v2 v3 v4, e = .returned (.tuple #[.agg #[v0, v1, v2, v3, v4, .int .u64 g.next], .int .i64 0, .int .i64 0]) ∧ GotA w w' g v0 v1 v2 v3 v4
 | .bad q c => e = .returned (.tuple #[.agg #[.slice none 0 0, .slice none 0 0, .slice none 0 0, .slice none 0 0, .slice none 0 0, .int .u64 0], .int .i64 q, .int .i64 c])
/-- The results' variables. -/
structure RV (w : World) (wi : World) : Prop where
 bel : Below w.heap.size w wi
 blk : ∃ cs, wi.heap[w.heap.size]? = some (.cells cs 44 (0, 0)) ∧ cs.size = 6
 at_ : wi.heap[w.heap.size + 1]? = some (.cells #[.int .i64 0] 3 (0, 0))
 er : wi.heap[w.heap.size + 1 + 1]? = some (.cells #[.int .i64 0] 50 (0, 0))
theorem RV.below {w wi wj : World} (h : RV w wi) (hb : Below wi.heap.size wi wj) : RV w wj := by
 obtain ⟨cs, h1, h2⟩ := h.blk
 exact ⟨below_step h.bel hb, ⟨cs, blk_below h1 hb, h2⟩, blk_below h.at_ hb, blk_below h.er hb⟩

abbrev Z6 : Array Value := #[.slice none 0 0, .slice none 0 0, .slice none 0 0, .slice none 0 0, .slice none 0 0, .int .u64 0]

set_option maxHeartbeats 8000000 in
set_option maxRecDepth 100000 in
/-- Where the body gives up. -/
theorem gives_up (w wi : World) (q : Nat) (c : Int) (tmps : Array Value) (h2 : tmps[2]? = some (.pointer (some ⟨w.heap.size, 0, none⟩))) (h3 : tmps[3]? = some (.pointer (some ⟨w.heap.size + 1, 0, none⟩))) (h4 : tmps[4]? = some (.pointer (some ⟨w.heap.size + 1 + 1, 0, none⟩)))
  (h : RV w wi) (R : Ending → World → Prop) (hR : ∀ e w', ReadPost w (.bad q c) e w' → R e w') :
  Leaves Tryz.prog Tryz.f6 tmps R [{ target := .fn (.func 23) #[.pointer (some ⟨w.heap.size, 0, none⟩), .pointer (some ⟨w.heap.size + 1, 0, none⟩), .pointer (some ⟨w.heap.size + 1 + 1, 0, none⟩)], args := #[] }] (.panicking (failed q c)) wi := by
 obtain ⟨cs, hb, hn⟩ := h.blk
 refine leaves_cons (f := 23) (args := #[.pointer (some ⟨w.heap.size, 0, none⟩), .pointer (some ⟨w.heap.size + 1, 0, none⟩), .pointer (some ⟨w.heap.size + 1 + 1, 0, none⟩)]) (by simp) (by simp [go_sem]) ?_
 refine (catch_failed w.heap.size w.heap.size (w.heap.size + 1) (w.heap.size + 1 + 1) q c cs _ _ [] wi hb hn h.at_ h.er ⟨Nat.le_refl _, Nat.le_succ _, by omega⟩).mono ?_
 rintro e u' w' ⟨rfl, rfl, hbb, hk, hg, ha, he⟩
 show Leaves Tryz.prog Tryz.f6 tmps R [] .returning w'
 have z0 : w'.cell? ⟨w.heap.size, 0, none⟩ = some (.slice none 0 0) := (blk_cell hg 0).trans rfl
 have z1 : w'.cell? ⟨w.heap.size, 1, none⟩ = some (.slice none 0 0) := (blk_cell hg 1).trans rfl
 have z2 : w'.cell? ⟨w.heap.size, 2, none⟩ = some (.slice none 0 0) := (blk_cell hg 2).trans rfl
 have z3 : w'.cell? ⟨w.heap.size, 3, none⟩ = some (.slice none 0 0) := (blk_cell hg 3).trans rfl
 have z4 : w'.cell? ⟨w.heap.size, 4, none⟩ = some (.slice none 0 0) := (blk_cell hg 4).trans rfl
 have z5 : w'.cell? ⟨w.heap.size, 5, none⟩ = some (.int .u64 0) := (blk_cell hg 5).trans rfl
 have a0 : w'.cell? ⟨w.heap.size + 1, 0, none⟩ = some (.int .i64 q) := (blk_cell ha 0).trans rfl
 have e0 : w'.cell? ⟨w.heap.size + 1 + 1, 0, none⟩ = some (.int .i64 c) := (blk_cell he 0).trans rfl
 have hbw : Below w.heap.size w w' := ⟨hbb.os.trans h.bel.os, hbb.tape.trans h.bel.tape, hbb.output.trans h.bel.output, Nat.le_trans h.bel.size hbb.size, fun k hk => (hbb.block k hk).trans (h.bel.block k hk)⟩
 refine ⟨.tuple #[.agg Z6, .int .i64 q, .int .i64 c], ?_, hR _ _ ⟨hbw, rfl⟩⟩
 simp [results, Tryz.results6, go_sem, h2, h3, h4, z0, z1, z2, z3, z4, z5, a0, e0]

theorem RV.kept {w wi wj : World} {S : Nat → Prop} (h : RV w wi) (hb : Below w.heap.size w wj) (hk : Kept wi wj S) (h1 : ¬ S (w.heap.size + 1)) (h2 : ¬ S (w.heap.size + 1 + 1)) (hg : ∃ cs, wj.heap[w.heap.size]? = some (.cells cs 44 (0, 0)) ∧ cs.size = 6) : RV w wj :=
 ⟨hb, hg, blk_kept h.at_ hk h1, blk_kept h.er hk h2⟩
theorem graph_reg {b : List Int} {pos p : Nat} {g : Gr} (h : graph b pos = .ok g p) : g.registry = [] := by
 unfold graph at h
 obtain ⟨next, p0, h0, h⟩ := bind_ok h
 obtain ⟨objs, p1, h1, h⟩ := bind_ok h
 obtain ⟨slots, p2, h2, h⟩ := bind_ok h
 obtain ⟨handles, p3, h3, h⟩ := bind_ok h
 obtain ⟨queue, p4, h4, h⟩ := bind_ok h
 injection h with h e
 subst h
 rfl

set_option maxHeartbeats 8000000 in
set_option maxRecDepth 100000 in
theorem Read_any (B : Option Addr) (c : Nat) (bs : List Int) (w : World) (hbb : Bytes bs) (hbl : bs.length ≤ 1000000) (hlc : bs.length ≤ c) (hC : Kd.C (Kd.int .u8) w B bs.length bs) (hT : Tabs w) :
  Calls Tryz.prog 6 #[.slice B bs.length c] w (ReadPostA w (readR bs)) := by
 have hmf : ∀ (fn : Fn) (first cap : Array Value) (w : World), (Instr.makeFunc fn first cap).run Tryz.prog w = .ok (.func fn first cap) w := fun _ _ _ _ => rfl
 have HT := Aside0.mk hT
 obtain ⟨R, hR⟩ : ∃ R, readR bs = R := ⟨_, rfl⟩
 obtain ⟨R1, hR1⟩ : ∃ R1, beginR bs = R1 := ⟨_, rfl⟩
 have HR : Aside0 (R1.bind (fun _ p => (graph bs p).bind fun g p1 => (endR bs p1).bind fun _ _ => if okB (whole g) = true then .ok (whole g) 0 else .bad 0 164) = R) := ⟨by rw [← hR1]; exact hR⟩
 have HB4 : Aside0 (∀ p, R1 = .ok () p → p = 4) := ⟨fun p e => by
  rw [← hR1] at e
  unfold beginR at e
  by_cases h1 : bs.length < 4
  ·rw [if_pos h1] at e; cases e
  by_cases h2 : bs.take 4 = head
  ·rw [if_neg h1, if_pos h2] at e
   injection e with e1 e2
   exact e2.symm
  ·rw [if_neg h1, if_neg h2] at e; cases e⟩
 have hb : Below w.heap.size w ((((w.alloc (.cells Z6 44)).alloc (.cells #[.int .i64 0] 3)).alloc (.cells #[.int .i64 0] 50)).alloc (.cells #[.slice B bs.length c, .int .i64 0] 84)) := below_alloc (below_alloc (below_alloc (below_alloc (Below.refl _ _) _) _) _) _
 have HV1 : Aside0 (RV w ((((w.alloc (.cells Z6 44)).alloc (.cells #[.int .i64 0] 3)).alloc (.cells #[.int .i64 0] 50)).alloc (.cells #[.slice B bs.length c, .int .i64 0] 84)) ∧ ((((w.alloc (.cells Z6 44)).alloc (.cells #[.int .i64 0] 3)).alloc (.cells #[.int .i64 0] 50)).alloc (.cells #[.slice B bs.length c, .int .i64 0] 84)).heap[w.heap.size]? = some (.cells Z6 44 (0, 0)) ∧ Rr w (w.heap.size + 1 + 1 + 1) B c bs 0 ((((w.alloc (.cells Z6 44)).alloc (.cells #[.int .i64 0] 3)).alloc (.cells #[.int .i64 0] 50)).alloc (.cells #[.slice B bs.length c, .int .i64 0] 84))) := ⟨by
  have g1 := blk_alloc (blk_alloc (blk_alloc (heap_alloc_new w (.cells Z6 44)) (.cells #[.int .i64 0] 3)) (.cells #[.int .i64 0] 50)) (.cells #[.slice B bs.length c, .int .i64 0] 84)
  have g2 := blk_alloc (blk_alloc (heap_alloc_new (w.alloc (.cells Z6 44)) (.cells #[.int .i64 0] 3)) (.cells #[.int .i64 0] 50)) (.cells #[.slice B bs.length c, .int .i64 0] 84)
  have g3 := blk_alloc (heap_alloc_new ((w.alloc (.cells Z6 44)).alloc (.cells #[.int .i64 0] 3)) (.cells #[.int .i64 0] 50)) (.cells #[.slice B bs.length c, .int .i64 0] 84)
  have g4 := heap_alloc_new (((w.alloc (.cells Z6 44)).alloc (.cells #[.int .i64 0] 3)).alloc (.cells #[.int .i64 0] 50)) (.cells #[.slice B bs.length c, .int .i64 0] 84)
  have s1 : (w.alloc (.cells Z6 44)).heap.size = w.heap.size + 1 := by simp
  have s2 : ((w.alloc (.cells Z6 44)).alloc (.cells #[.int .i64 0] 3)).heap.size = w.heap.size + 1 + 1 := by simp
  have s3 : (((w.alloc (.cells Z6 44)).alloc (.cells #[.int .i64 0] 3)).alloc (.cells #[.int .i64 0] 50)).heap.size = w.heap.size + 1 + 1 + 1 := by simp
  rw [s1] at g2
  rw [s2] at g3
  rw [s3] at g4
  exact ⟨⟨hb, ⟨_, g1, rfl⟩, g2, g3⟩, g1, hb, by omega, g4, hC, by omega⟩⟩
 rw [hR]
 clear hT hR hb
 have HC1 : Aside0 (Calls Tryz.prog 24 #[.pointer (some ⟨w.heap.size + 1 + 1 + 1, 0, none⟩)] ((((w.alloc (.cells Z6 44)).alloc (.cells #[.int .i64 0] 3)).alloc (.cells #[.int .i64 0] 50)).alloc (.cells #[.slice B bs.length c, .int .i64 0] 84)) (RPost (fun w' => Kept ((((w.alloc (.cells Z6 44)).alloc (.cells #[.int .i64 0] 3)).alloc (.cells #[.int .i64 0] 50)).alloc (.cells #[.slice B bs.length c, .int .i64 0] 84)) w' (fun k => k = w.heap.size + 1 + 1 + 1) ∧ Below w.heap.size w w') R1 fun _ q w' => RV w w' ∧ w'.heap[w.heap.size]? = some (.cells Z6 44 (0, 0)) ∧ Rr w (w.heap.size + 1 + 1 + 1) B c bs q w')) := ⟨by
  have h1 := rbegin_any w (w.heap.size + 1 + 1 + 1) c B bs _ hbb (by omega) hlc HV1.out.2.2
  rw [hR1] at h1
  refine h1.mono (fun e w' h => ?_)
  cases R1 with
  | bad q c => exact h
  | ok u q =>
   obtain ⟨he, hr, hk⟩ := h
   have hg := blk_kept HV1.out.2.1 hk (by omega)
   exact ⟨he, HV1.out.1.kept hr.bel hk (by omega) (by omega) ⟨_, hg, rfl⟩, hg, hr⟩⟩
 clear hR1
 go_enter_defers Tryz.func6, Tryz.ntmps6
 go_wp2_with (fail)
 refine HC1.out.mono ?_
 cases R1 with
 | bad q code =>
  rintro en w2 ⟨rfl, hk2, hb2⟩
  refine gives_up w w2 q code _ (by simp) (by simp) (by simp) (HV1.out.1.kept hb2 hk2 (by omega) (by omega) ⟨_, blk_kept HV1.out.2.1 hk2 (by omega), rfl⟩) _ ?_
  intro e w' h
  rw [← HR.out]
  exact h
 | ok u p4 =>
 obtain rfl := HB4.out p4 rfl
 rintro en w2 ⟨rfl, hv2, hg2, hr2⟩
 have HV2 := Aside0.mk hv2
 have HZ2 := Aside0.mk (blk_lt hr2.blk)
 have HC2 := Aside0.mk (rall_any w (w.heap.size + 1 + 1 + 1) w.heap.size c 4 B bs w2 hbb (by omega) hr2 hg2 (Nat.le_refl _))
 obtain ⟨R2, hR2⟩ : ∃ R2, graph bs 4 = R2 := ⟨_, rfl⟩
 have HR2 : Aside0 (R2.bind (fun g p1 => (endR bs p1).bind fun _ _ => if okB (whole g) = true then .ok (whole g) 0 else .bad 0 164) = R) := ⟨by rw [← hR2]; exact HR.out⟩
 have HG2 := Aside0.mk hR2
 rw [hR2] at HC2
 clear hv2 hg2 hr2 hR2 HC1 HV1 HR HB4
 go_wp2_with (fail)
 refine HC2.out.mono ?_
 clear HC2
 cases R2 with
 | bad q code =>
  rintro en w3 ⟨rfl, hbd⟩
  refine gives_up w w3 q code _ (by simp) (by simp) (by simp) (HV2.out.kept hbd.bel hbd.kept (fun e => by rcases e with e | e | e; omega; omega; exact e) (fun e => by rcases e with e | e | e; omega; omega; exact e) hbd.blk) _ ?_
  intro e w' h
  rw [← HR2.out]
  exact h
 | ok g p =>
 rintro en w3 ⟨rfl, hr3, hk3, v0, v1, v2, v4, hgot⟩
 have HR3 := Aside0.mk hr3
 have HGT := Aside0.mk hgot
 have HV3 := Aside0.mk (HV2.out.kept hr3.bel hk3 (fun e => by rcases e with e | e <;> omega) (fun e => by rcases e with e | e <;> omega) ⟨_, hgot.blk, rfl⟩)
 have HC3 := Aside0.mk (rend_any w (w.heap.size + 1 + 1 + 1) c p B bs w3 hbb (by omega) hlc hr3)
 obtain ⟨R3, hR3⟩ : ∃ R3, endR bs p = R3 := ⟨_, rfl⟩
 have HR4 : Aside0 (R3.bind (fun _ _ => if okB (whole g) = true then .ok (whole g) 0 else .bad 0 164) = R) := ⟨by rw [← hR3]; exact HR2.out⟩
 rw [hR3] at HC3
 clear hr3 hk3 hgot hR3 HR2 HV2
 go_wp2_with (fail)
 refine HC3.out.mono ?_
 clear HC3
 cases R3 with
 | bad q code =>
  rintro en w4 ⟨rfl, hbd, -⟩
  refine gives_up w w4 q code _ (by simp) (by simp) (by simp) (HV3.out.below hbd) _ ?_
  intro e w' h
  rw [← HR4.out]
  exact h
 | ok u3 p3 =>
 rintro en w4 ⟨rfl, hb4⟩
 have hfit := graph_fits HG2.out
 have hreg := graph_reg HG2.out
 have htame := hfit.tame hbl
 have HRX : Aside0 ((if okB (whole g) = true then .ok (whole g) 0 else .bad 0 164) = R) := ⟨HR4.out⟩
 have hv4 := HV3.out.below hb4
 have hgt := HGT.out
 have q0 := Kd.R_below hgt.r0 hb4
 have q1 := Kd.R_below hgt.r1 hb4
 have q2 := Kd.R_below hgt.r2 hb4
 have q4 := Kd.R_below hgt.r4 hb4
 have hap : ∃ l0 u0 l1 u1 l2 u2 l4 u4, Iv k66 66 w2.heap.size w2.heap.size w4 v0 g.objs l0 u0 ∧ Iv (fsl 25 (Kd.slice 3 (Kd.int .i64))) 26 w2.heap.size u0 w4 v1 g.slots l1 u1 ∧ Iv (Kd.int .i64) 3 w2.heap.size u1 w4 v2 g.handles l2 u2 ∧ Iv (Kd.int .i64) 3 w2.heap.size u2 w4 v4 g.queue l4 u4 := by
  obtain ⟨l0, u0, l1, u1, l2, u2, l4, u4, i0, i1, i2, i4⟩ := hgt.ap
  exact ⟨l0, u0, l1, u1, l2, u2, l4, u4, i0.below hb4, i1.below hb4, i2.below hb4, i4.below hb4⟩
 have hblk := blk_below hgt.blk hb4
 obtain ⟨A0, c0, rfl, l0, C0⟩ := Kd.R_reads q0
 obtain ⟨A1, c1, rfl, l1, C1⟩ := Kd.R_reads q1
 obtain ⟨A2, c2, rfl, l2, C2⟩ := Kd.R_reads q2
 obtain ⟨A4, c4, rfl, l4, C4⟩ := Kd.R_reads q4
 obtain ⟨k, hk⟩ := (registry_ev g (by have := hfit.objs; omega)).rounds
 rw [hreg] at hk
 have HC4 := Aside0.mk (image_registry.calls k A0 c0 g.objs A1 c1 g.slots A2 c2 g.handles none 0 [] A4 c4 g.queue g.next _ w4 C0 l0 C1 l1 C2 l2 (Kd.C_nil _ _) (Nat.le_refl _) C4 l4 hk)
 have g0 : w4.cell? ⟨w.heap.size, 0, none⟩ = some (.slice A0 g.objs.length c0) := (blk_cell hblk 0).trans rfl
 have g1 : w4.cell? ⟨w.heap.size, 1, none⟩ = some (.slice A1 g.slots.length c1) := (blk_cell hblk 1).trans rfl
 have g2 : w4.cell? ⟨w.heap.size, 2, none⟩ = some (.slice A2 g.handles.length c2) := (blk_cell hblk 2).trans rfl
 have g3 : w4.cell? ⟨w.heap.size, 3, none⟩ = some (.slice none 0 0) := (blk_cell hblk 3).trans rfl
 have g4 : w4.cell? ⟨w.heap.size, 4, none⟩ = some (.slice A4 g.queue.length c4) := (blk_cell hblk 4).trans rfl
 have g5 : w4.cell? ⟨w.heap.size, 5, none⟩ = some (.int .u64 g.next) := (blk_cell hblk 5).trans rfl
 have HV4 := Aside0.mk hv4
 have HQ4 := Aside0.mk (And.intro q0 (And.intro q1 (And.intro q2 q4)))
 have HAP := Aside0.mk hap
 have HBLK4 := Aside0.mk hblk
 have HTM := Aside0.mk htame
 have HLE := Aside0.mk (show w.heap.size ≤ w2.heap.size by have := HZ2.out; omega)
 have HLL := Aside0.mk (And.intro l0 (And.intro l1 (And.intro l2 l4)))
 have HBX := Aside0.mk (below_step (HV3.out.bel) hb4)
 clear hap hfit hreg htame hv4 hgt q0 q1 q2 q4 hblk l0 l1 l2 l4 C0 C1 C2 C4 hk HR3 HV3 HGT HG2 HR4 hb4
 go_wp2_with (fail)
 refine HC4.out.mono ?_
 clear HC4
 rintro en w5 ⟨v3, rfl, hv3, hb5⟩
 obtain ⟨A3, c3, rfl, l3, C3⟩ := Kd.R_reads hv3
 have hblk5 := blk_below HBLK4.out hb5
 have HL3 := Aside0.mk l3
 have hg3 : w5.cell? ⟨w.heap.size, 3, none⟩ = some (.slice none 0 0) := (blk_cell hblk5 3).trans rfl
 have hf3 := blk_frozen hblk5 3
 have HW6 : Aside0 ((RV w (w5.setCell ⟨w.heap.size, 3, none⟩ (.slice A3 (finals g.objs).length c3)) ∧ (w5.setCell ⟨w.heap.size, 3, none⟩ (.slice A3 (finals g.objs).length c3)).heap[w.heap.size]? = some (.cells #[.slice A0 g.objs.length c0, .slice A1 g.slots.length c1, .slice A2 g.handles.length c2, .slice A3 (finals g.objs).length c3, .slice A4 g.queue.length c4, .int .u64 g.next] 44 (0, 0))) ∧ GotA w (w5.setCell ⟨w.heap.size, 3, none⟩ (.slice A3 (finals g.objs).length c3)) (whole g) (.slice A0 g.objs.length c0) (.slice A1 g.slots.length c1) (.slice A2 g.handles.length c2) (.slice A3 (finals g.objs).length c3) (.slice A4 g.queue.length c4)) := ⟨by
  obtain ⟨q0, q1, q2, q4⟩ := HQ4.out
  have hb6 := blk_put hblk5 3 (.slice A3 (finals g.objs).length c3) rfl
  have hv := HV4.out.below hb5
  refine ⟨⟨⟨below_set hv.bel (Nat.le_refl _), ⟨_, hb6, rfl⟩, blk_far hv.at_ (by show _ ≠ w.heap.size; omega) _, blk_far hv.er (by show _ ≠ w.heap.size; omega) _⟩, hb6⟩, ?_⟩
  obtain ⟨l0, u0, l1, u1, l2, u2, l4, u4, i0, i1, i2, i4⟩ := HAP.out
  have hle := hb5.size
  have hr3 : Rsp (Kd.int .i64) 3 w5 w4.heap.size (fun _ => True) (.slice A3 (finals g.objs).length c3) (finals g.objs) w5.heap.size := Rsp_int hv3
  have i3 : Iv (Kd.int .i64) 3 w.heap.size u4 w5 (.slice A3 (finals g.objs).length c3) (finals g.objs) w4.heap.size w5.heap.size := Iv.of hr3 HV4.out.bel.size i4.us hle
  have hap : ∃ l0 u0 l1 u1 l2 u2 l4 u4 l3 u3, Iv k66 66 w.heap.size w.heap.size (w5.setCell ⟨w.heap.size, 3, none⟩ (.slice A3 (finals g.objs).length c3)) (.slice A0 g.objs.length c0) g.objs l0 u0 ∧ Iv (fsl 25 (Kd.slice 3 (Kd.int .i64))) 26 w.heap.size u0 (w5.setCell ⟨w.heap.size, 3, none⟩ (.slice A3 (finals g.objs).length c3)) (.slice A1 g.slots.length c1) g.slots l1 u1 ∧ Iv (Kd.int .i64) 3 w.heap.size u1 (w5.setCell ⟨w.heap.size, 3, none⟩ (.slice A3 (finals g.objs).length c3)) (.slice A2 g.handles.length c2) g.handles l2 u2 ∧ Iv (Kd.int .i64) 3 w.heap.size u2 (w5.setCell ⟨w.heap.size, 3, none⟩ (.slice A3 (finals g.objs).length c3)) (.slice A4 g.queue.length c4) g.queue l4 u4 ∧ Iv (Kd.int .i64) 3 w.heap.size u4 (w5.setCell ⟨w.heap.size, 3, none⟩ (.slice A3 (finals g.objs).length c3)) (.slice A3 (finals g.objs).length c3) (finals g.objs) l3 u3 :=
   ⟨l0, u0, l1, u1, l2, u2, l4, u4, _, _, (((i0.below hb5).lower HLE.out).back HLE.out).set hblk5 (by decide) _ _, ((i1.below hb5).lower HLE.out).set hblk5 (by decide) _ _, ((i2.below hb5).lower HLE.out).set hblk5 (by decide) _ _, ((i4.below hb5).lower HLE.out).set hblk5 (by decide) _ _, i3.set hblk5 (by decide) _ _⟩
  exact ⟨⟨Kd.R_set (Kd.R_lower (Kd.R_below q0 hb5) HLE.out) hblk5 (by decide) _ _, Kd.R_set (Kd.R_lower (Kd.R_below q1 hb5) HLE.out) hblk5 (by decide) _ _, Kd.R_set (Kd.R_lower (Kd.R_below q2 hb5) HLE.out) hblk5 (by decide) _ _, Kd.R_set (Kd.R_lower hv3 HV4.out.bel.size) hblk5 (by decide) _ _, Kd.R_set (Kd.R_lower (Kd.R_below q4 hb5) HLE.out) hblk5 (by decide) _ _⟩, hap⟩⟩
 have k0 : w5.cell? ⟨w.heap.size, 0, none⟩ = some (.slice A0 g.objs.length c0) := (blk_cell hblk5 0).trans rfl
 have k1 : w5.cell? ⟨w.heap.size, 1, none⟩ = some (.slice A1 g.slots.length c1) := (blk_cell hblk5 1).trans rfl
 have k2 : w5.cell? ⟨w.heap.size, 2, none⟩ = some (.slice A2 g.handles.length c2) := (blk_cell hblk5 2).trans rfl
 have k4 : w5.cell? ⟨w.heap.size, 4, none⟩ = some (.slice A4 g.queue.length c4) := (blk_cell hblk5 4).trans rfl
 have k5 : w5.cell? ⟨w.heap.size, 5, none⟩ = some (.int .u64 g.next) := (blk_cell hblk5 5).trans rfl
 have HC5 := Aside0.mk (Check_hand ⟨A0, A1, A2, A3, A4, c0, c1, c2, c3, c4⟩ (whole g) HTM.out _ (by
  obtain ⟨a1, a2⟩ := HW6.out
  obtain ⟨l0, l1, l2, l4⟩ := HLL.out
  obtain ⟨_, _, e0, _, C0⟩ := Kd.R_reads a2.got.r0
  obtain ⟨_, _, e1, _, C1⟩ := Kd.R_reads a2.got.r1
  obtain ⟨_, _, e2, _, C2⟩ := Kd.R_reads a2.got.r2
  obtain ⟨_, _, e3, _, C3⟩ := Kd.R_reads a2.got.r3
  obtain ⟨_, _, e4, _, C4⟩ := Kd.R_reads a2.got.r4
  injection e0 with e0 _ _
  injection e1 with e1 _ _
  injection e2 with e2 _ _
  injection e3 with e3 _ _
  injection e4 with e4 _ _
  subst e0 e1 e2 e3 e4
  exact ⟨C0, C1, C2, C3, C4, l0, l1, l2, HL3.out, l4⟩) (HT.out.below HW6.out.1.1.bel))
 clear hv3 hb5 l3 C3 hblk5 g0 g1 g2 g3 g4 g5 HQ4 HV4 HBLK4 HBX HAP
 go_wp2_with (fail)
 refine HC5.out.mono ?_
 clear HC5 k0 k1 k2 k4 k5 hg3 hf3
 generalize w5.setCell ⟨w.heap.size, 3, none⟩ (.slice A3 (finals g.objs).length c3) = w6 at *
 rintro en w7 ⟨rfl, hb7⟩
 have HV7 := Aside0.mk (HW6.out.1.1.below hb7)
 have hblk := blk_below HW6.out.1.2 hb7
 have HGOT : Aside0 (GotA w w7 (whole g) (.slice A0 g.objs.length c0) (.slice A1 g.slots.length c1) (.slice A2 g.handles.length c2) (.slice A3 (finals g.objs).length c3) (.slice A4 g.queue.length c4)) := ⟨by
  have h := HW6.out.2
  exact ⟨⟨Kd.R_below h.got.r0 hb7, Kd.R_below h.got.r1 hb7, Kd.R_below h.got.r2 hb7, Kd.R_below h.got.r3 hb7, Kd.R_below h.got.r4 hb7⟩, by
   obtain ⟨l0, u0, l1, u1, l2, u2, l4, u4, l3, u3, i0, i1, i2, i4, i3⟩ := h.ap
   exact ⟨l0, u0, l1, u1, l2, u2, l4, u4, l3, u3, i0.below hb7, i1.below hb7, i2.below hb7, i4.below hb7, i3.below hb7⟩⟩⟩
 have k0 : w7.cell? ⟨w.heap.size, 0, none⟩ = some (.slice A0 g.objs.length c0) := (blk_cell hblk 0).trans rfl
 have k1 : w7.cell? ⟨w.heap.size, 1, none⟩ = some (.slice A1 g.slots.length c1) := (blk_cell hblk 1).trans rfl
 have k2 : w7.cell? ⟨w.heap.size, 2, none⟩ = some (.slice A2 g.handles.length c2) := (blk_cell hblk 2).trans rfl
 have k3 : w7.cell? ⟨w.heap.size, 3, none⟩ = some (.slice A3 (finals g.objs).length c3) := (blk_cell hblk 3).trans rfl
 have k4 : w7.cell? ⟨w.heap.size, 4, none⟩ = some (.slice A4 g.queue.length c4) := (blk_cell hblk 4).trans rfl
 have k5 : w7.cell? ⟨w.heap.size, 5, none⟩ = some (.int .u64 g.next) := (blk_cell hblk 5).trans rfl
 have ka : w7.cell? ⟨w.heap.size + 1, 0, none⟩ = some (.int .i64 0) := (blk_cell HV7.out.at_ 0).trans rfl
 have ke : w7.cell? ⟨w.heap.size + 1 + 1, 0, none⟩ = some (.int .i64 0) := (blk_cell HV7.out.er 0).trans rfl
 have f0 := blk_frozen hblk 0
 have f1 := blk_frozen hblk 1
 have f2 := blk_frozen hblk 2
 have f3 := blk_frozen hblk 3
 have f4 := blk_frozen hblk 4
 have f5 := blk_frozen hblk 5
 have fa := blk_frozen HV7.out.at_ 0
 have fe := blk_frozen HV7.out.er 0
 have i0 := setCell_id k0
 have i1 := setCell_id k1
 have i2 := setCell_id k2
 have i3 := setCell_id k3
 have i4 := setCell_id k4
 have i5 := setCell_id k5
 have ia := setCell_id ka
 have ie := setCell_id ke
 clear hb7 hblk HW6
 by_cases hok : okB (whole g) = true
 ·have HRY : Aside0 (Res.ok (whole g) 0 = R) := ⟨by rw [← HRX.out, if_pos hok]⟩
  rw [if_pos hok]
  clear hok
  go_wp2_with (fail)
  clear i0 i1 i2 i3 i4 i5 ia ie f0 f1 f2 f3 f4 f5 fa fe
  refine leaves_cons (f := 23) (args := #[.pointer (some ⟨w.heap.size, 0, none⟩), .pointer (some ⟨w.heap.size + 1, 0, none⟩), .pointer (some ⟨w.heap.size + 1 + 1, 0, none⟩)]) (by simp) (by simp [go_sem]) ?_
  refine (catch_idle ⟨w.heap.size, 0, none⟩ ⟨w.heap.size + 1, 0, none⟩ ⟨w.heap.size + 1 + 1, 0, none⟩ w7).mono ?_
  rintro e u' w' ⟨rfl, rfl, rfl⟩
  show Leaves Tryz.prog Tryz.f6 _ _ [] .returning w'
  refine ⟨.tuple #[.agg #[.slice A0 g.objs.length c0, .slice A1 g.slots.length c1, .slice A2 g.handles.length c2, .slice A3 (finals g.objs).length c3, .slice A4 g.queue.length c4, .int .u64 g.next], .int .i64 0, .int .i64 0], ?_, ?_⟩
  ·simp [results, Tryz.results6, go_sem, k0, k1, k2, k3, k4, k5, ka, ke]
  ·rw [← HRY.out]
   exact ⟨HV7.out.bel, _, _, _, _, _, rfl, HGOT.out⟩
 ·have HRY : Aside0 (Res.bad 0 164 = R) := ⟨by rw [← HRX.out, if_neg hok]⟩
  rw [if_neg hok]
  clear hok i0 i1 i2 i3 i4 i5 ia ie
  go_wp2_with (fail)
  refine gives_up w w7 0 164 _ (by simp) (by simp) (by simp) HV7.out _ ?_
  intro e w' h
  rw [← HRY.out]
  exact h
end Go.Proofs.YtihjjkoddphmiaaGreatDoor.img

namespace Go.Proofs.YtihjjkoddphmiaaGreatDoor.img
open Go.RowKit Go.Proofs.YtihjjkoddphmiaaGreatDoorW.PrintWords Go.Proofs.YtihjjkoddphmiaaGreatDoorW.PrintLast Go.Proofs.YtihjjkoddphmiaaGreatDoorW.PrintMore Go.Proofs.YtihjjkoddphmiaaGreatDoor.PImageApart
set_option linter.unusedVariables false
set_option linter.unusedSimpArgs false

theorem sb_len (n : Nat) : (sb n).length = 4 := rfl
theorem image_len (g : Gr) : (image g).length = (body g).length + 4 := by unfold image; rw [List.length_append, sb_len]
section
variable {σ α : Type}
end
theorem fnv_lt (l : List Int) : fnv l < 4294967296 := fnvFrom_lt l _ (by decide)

end Go.Proofs.YtihjjkoddphmiaaGreatDoor.img

namespace Go.Proofs.YtihjjkoddphmiaaGreatDoor.img
open Go.RowKit Go.Proofs.YtihjjkoddphmiaaGreatDoorW.PrintWords Go.Proofs.YtihjjkoddphmiaaGreatDoorW.PrintLast Go.Proofs.YtihjjkoddphmiaaGreatDoorW.PrintMore Go.Proofs.YtihjjkoddphmiaaGreatDoor.PImageApart
set_option linter.unusedVariables false
set_option linter.unusedSimpArgs false

def sumF (l : List (List Int)) : Nat := (l.map List.length).sum
def sumS (l : List (List (List Int))) : Nat := (l.map fun fr => fr.length + sumF fr).sum
def sumO (l : List S66) : Nat := (l.map fun o => o.f3.length + o.f4.length).sum
/-- All that a graph has. -/
def total (g : Gr) : Nat := g.objs.length + g.slots.length + g.handles.length + g.registry.length + g.queue.length + sumO g.objs + sumS g.slots
theorem mem_sum {α : Type} (f : α → Nat) : ∀ {l : List α} {x : α}, x ∈ l → f x ≤ (l.map f).sum
 | [], x, h => by simp at h
 | a :: r, x, h => by
  simp only [List.map_cons, List.sum_cons]
  rcases List.mem_cons.1 h with rfl | h
  ·omega
  ·have := mem_sum f h
   omega
theorem total_near {g : Gr} (h : total g ≤ 16384) : Near g := by
 unfold total at h
 refine ⟨by omega, by omega, by omega, by omega, by omega, fun o ho => ?_, fun fr hf => ?_⟩
 ·have : o.f3.length + o.f4.length ≤ sumO g.objs := mem_sum (fun o : S66 => o.f3.length + o.f4.length) ho
  omega
 ·have : fr.length + sumF fr ≤ sumS g.slots := mem_sum (fun fr : List (List Int) => fr.length + sumF fr) hf
  refine ⟨by omega, fun f hff => ?_⟩
  have h2 : f.length ≤ sumF fr := mem_sum List.length hff
  omega
theorem flat_sum {α : Type} {E : α → List Int} (f : α → Nat) : ∀ {l : List α}, (∀ x ∈ l, (E x).length ≤ f x) → (l.flatMap E).length ≤ (l.map f).sum
 | [], _ => by simp
 | a :: r, h => by
  have h1 := h a (by simp)
  have h2 := flat_sum f (l := r) (fun x hx => h x (by simp [hx]))
  simp only [List.flatMap_cons, List.length_append, List.map_cons, List.sum_cons]
  omega
theorem encL_ints {more : Int} {l : List Int} (hl : l.length ≤ 131072) (h : ∀ x ∈ l, x + more < 18446744073709551616) : (encL (encI more) l).length ≤ 10 + l.length * 10 :=
 encL_len (by omega) (fun x hx => encI_ten (h x hx))
theorem sum_map_ten {α : Type} (f : α → Nat) (l : List α) : (l.map fun x => 10 + f x * 10).sum = l.length * 10 + (l.map f).sum * 10 := by
 induction l with
 | nil => rfl
 | cons a r ih => simp only [List.map_cons, List.sum_cons, List.length_cons, ih]; omega
theorem encOs_size : ∀ (l : List S66) (last : Int), allS (fun _ o => o.f0) okW last l → (∀ o ∈ l, o.f3.length ≤ 131072 ∧ o.f4.length ≤ 131072) → (encOs last l).length ≤ l.length * 50 + sumO l * 10
 | [], _, _, _ => by simp [encOs, sumO]
 | a :: r, last, ha, hl => by
  have h1 := encOs_size r a.f0 ha.2 (fun o ho => hl o (by simp [ho]))
  obtain ⟨⟨a1, a2, a3⟩, b, c, d, e⟩ := ha.1
  have h2 := hl a (by simp)
  have e1 : (enc (a.f0 - last).toNat).length ≤ 10 := enc_ten (by omega)
  have e2 : (encI 0 a.f1).length ≤ 10 := encI_ten (by omega)
  have e3 : (encI 0 a.f2).length ≤ 10 := encI_ten (by omega)
  have e4 := encL_ints (more := 0) (l := a.f3) h2.1 (fun x hx => by have := d.2 x hx; omega)
  have e5 := encL_ints (more := 0) (l := a.f4) h2.2 (fun x hx => by have := e.2 x hx; omega)
  rw [encOs]
  have hs : sumO (a :: r) = a.f3.length + a.f4.length + sumO r := rfl
  simp only [encO, List.length_append, List.length_cons, hs]
  omega
/-- A small graph's image. -/
theorem Good.size {g : Gr} (h : Good g) (ht : total g ≤ 16384) : (image g).length ≤ 900000 := by
 have hn := total_near ht
 have h1 := encOs_size g.objs 0 h.objs hn.obj
 have h2 : (encL (encL (encL (encI 0))) g.slots).length ≤ 10 + (g.slots.length * 10 + sumS g.slots * 10) := by
  have hf := flat_sum (E := encL (encL (encI 0))) (fun fr : List (List Int) => 10 + (fr.length + sumF fr) * 10) (l := g.slots) (fun fr hf => by
   obtain ⟨c1, c2⟩ := h.slots.2 fr hf
   have hf2 := flat_sum (E := encL (encI 0)) (fun f : List Int => 10 + f.length * 10) (l := fr) (fun f hff => encL_ints (by have := (c2 f hff).1; omega) (fun x hx => by have := (c2 f hff).2 x hx; omega))
   rw [sum_map_ten] at hf2
   have e0 : (enc fr.length).length ≤ 10 := enc_ten (by omega)
   have hs : sumF fr = (fr.map List.length).sum := rfl
   show (encL (encL (encI 0)) fr).length ≤ 10 + (fr.length + sumF fr) * 10
   unfold encL
   rw [List.length_append]
   unfold encL at hf2
   omega)
  rw [sum_map_ten] at hf
  have e0 : (enc g.slots.length).length ≤ 10 := enc_ten (by have := hn.slots; omega)
  have hs : sumS g.slots = (g.slots.map fun fr => fr.length + sumF fr).sum := rfl
  unfold encL
  rw [List.length_append]
  unfold encL at hf
  omega
 have h3 := encL_ints (more := 1) (l := g.handles) (by have := hn.handles; omega) (fun x hx => by have := h.handles.2 x hx; omega)
 have h4 := encL_ints (more := 0) (l := g.queue) (by have := hn.queue; omega) (fun x hx => by have := h.queue x hx; omega)
 have h5 : (enc g.next.toNat).length ≤ 10 := enc_ten (by have := h.next; omega)
 have h6 : (enc g.objs.length).length ≤ 10 := enc_ten (by have := hn.objs; omega)
 rw [image_len, body_eq, List.length_append]
 have h7 : head.length = 4 := rfl
 unfold rest
 unfold total at ht
 simp only [List.length_append, h7]
 omega
end Go.Proofs.YtihjjkoddphmiaaGreatDoor.img

namespace Go.Proofs.YtihjjkoddphmiaaGreatDoor.img
open Go.RowKit Go.Proofs.YtihjjkoddphmiaaGreatDoorW.PrintWords Go.Proofs.YtihjjkoddphmiaaGreatDoorW.PrintLast Go.Proofs.YtihjjkoddphmiaaGreatDoorW.PrintMore Go.Proofs.YtihjjkoddphmiaaGreatDoor.PImageApart
set_option linter.unusedVariables false
set_option linter.unusedSimpArgs false

def bk : List Int := [77, 68, 73, 49, 1, 0, 1, 0, 0, 0]
theorem same_ev (l : List Int) (r : List Int) (hl : Bytes l) (hr : Bytes r) : middenlaw16_same.f l r = some (decide (l = r)) := by
 unfold middenlaw16_same.f
 congr 1
 by_cases h : l = r
 ·subst h; simp
 ·rw [decide_eq_false h]
  rw [beq_eq_false_iff_ne]
  intro e
  exact h (str_inj hl hr e)

set_option maxHeartbeats 8000000 in
set_option maxRecDepth 100000 in
/-- The law's num. -/
theorem num_is (a : Int) (w : World) : Calls Tryz.prog 7 #[.int .i64 a] w fun e w' => e = .returned (.int .i64 a) ∧ w = w' := by
 go_enter Tryz.func7, Tryz.ntmps7
 go_wp2
 go_ret
 exact ⟨by first | rfl | (simp; done), by first | rfl | (simp; done)⟩

set_option maxRecDepth 100000 in
/-- A row's first bytes. -/
theorem cut_is {A : Option Addr} {c : Nat} {l : List Int} (j : Nat) (hj : j ≤ l.length) (hc : l.length ≤ c) (W : World) : (Instr.slice 40 (.slice A l.length c) none (some (.int .i64 (j : Int))) none).run Tryz.prog W = .ok (.slice A j c) W := by
 obtain ⟨i, hi, hs⟩ := Option.map_eq_some_iff.1 info5
 have hsz : i.size = 1 := by injection hs with h1 h2; injection h2
 have h := (print_take_int (P := Tryz.prog) (k := .u8) 40 5 Tryz.underlying40 hi hsz A c l (j : Int) (by omega) (by omega) hc).1 W
 rw [List.length_take] at h
 have e : min (j : Int).toNat l.length = j := by omega
 rw [e] at h
 exact h
/-- Two rows of bytes are compared. -/
theorem same_any {A B : Option Addr} {c d : Nat} {l r : List Int} {w : World} (hl : Bytes l) (hr : Bytes r) (h1 : Kd.C (Kd.int .u8) w A l.length l) (h2 : l.length ≤ c) (h3 : Kd.C (Kd.int .u8) w B r.length r) (h4 : r.length ≤ d) :
  Calls Tryz.prog 12 #[.slice A l.length c, .slice B r.length d] w fun e w' => e = .returned (.bool (decide (l = r))) ∧ Below w.heap.size w w' := by
 refine (middenlaw16_same.calls A c l B d r _ w h1 h2 h3 h4 (same_ev l r hl hr)).mono ?_
 rintro e w' ⟨rfl, hd⟩
 obtain ⟨m, rfl⟩ := hd.out
 exact ⟨rfl, pw_below_drewN (Below.refl _ _) m⟩

end Go.Proofs.YtihjjkoddphmiaaGreatDoor.img
