import Derived.Test.YtihjjkoddphmiaaDoorMIm2
import Derived.Test.YtihjjkoddphmiaaDoorMIm4
import Derived.Test.YtihjjkoddphmiaaDoorMIm3
import Derived.Test.YtihjjkoddphmiaaDoorMIm1
import Derived.Test.YtihjjkoddphmiaaDoorMPImageRoundx0
import Derived.Test.YtihjjkoddphmiaaDoorMPImageRoundx6
import Derived.Laws.BitsLemmas
import Derived.Defers
import Derived.Recover
import Derived.RegionTactic
namespace Go.Proofs.YtihjjkoddphmiaaDoor.img
open Go.RowKit Go.Proofs.YtihjjkoddphmiaaDoorW.PrintWords Go.Proofs.YtihjjkoddphmiaaDoorW.PrintMore Go.Proofs.YtihjjkoddphmiaaDoor.PImageRound
set_option linter.unusedVariables false
set_option linter.unusedSimpArgs false

/-- The walk over a whole graph with a reader: where it stands. -/
structure RA (w0 w : World) (gr gg gq gf c : Nat) (B : Option Addr) (bs : List Int) (q : Nat) (cx : Array Value) (wi : World) : Prop where
 rs : RS w0 w gr gg 27 c B bs (fun _ => False) q cx wi
 q : wi.heap[gq]? = some (.cells #[.iface 91 (.pointer (some ⟨gr, 0, none⟩))] 111 (0, 0))
 f : wi.heap[gf]? = some (.cells #[.func (.func 66) #[] #[.pointer (some ⟨gq, 0, none⟩)]] 114 (0, 0))
section
variable {w0 w wi wj : World} {gr gg gq gf c q q' : Nat} {B : Option Addr} {bs : List Int} {S : Nat → Prop} {cx cx' : Array Value}
theorem RA.below (h : RA w0 w gr gg gq gf c B bs q cx wi) (hb : Below wi.heap.size wi wj) : RA w0 w gr gg gq gf c B bs q cx wj := ⟨h.rs.below hb, blk_below h.q hb, blk_below h.f hb⟩
theorem RA.step (h : RA w0 w gr gg gq gf c B bs q cx wi) (hr : Rr w0 gr B c bs q' wj) (hk : Kept wi wj S) (hS : ∀ k, S k → k = gr ∨ k = gg ∨ w.heap.size ≤ k) (hq : ¬ S gq) (hf : ¬ S gf) (hb : wj.heap[gg]? = some (.cells cx' 27 (0, 0))) : RA w0 w gr gg gq gf c B bs q' cx' wj :=
 ⟨h.rs.step hr hk (fun k e => (hS k e).elim (fun e => .inl (.inl e)) (fun e => e.elim (fun e => .inl (.inr (.inl e))) .inr)) hb, blk_kept h.q hk hq, blk_kept h.f hk hf⟩
theorem RA.cq (h : RA w0 w gr gg gq gf c B bs q cx wi) : wi.cell? ⟨gq, 0, none⟩ = some (.iface 91 (.pointer (some ⟨gr, 0, none⟩))) := (blk_cell h.q 0).trans rfl
theorem RA.cf (h : RA w0 w gr gg gq gf c B bs q cx wi) : wi.cell? ⟨gf, 0, none⟩ = some (.func (.func 66) #[] #[.pointer (some ⟨gq, 0, none⟩)]) := (blk_cell h.f 0).trans rfl
end
theorem IO_firm {w : World} {gr gg gl : Nat} {q r : Addr} (hq : q.block < w.heap.size) (hqr : q.block ≠ gr) (hqp : q.block ≠ gg) (hr : r.block < w.heap.size) (hrr : r.block ≠ gr) (hrp : r.block ≠ gg) (hl : gl < w.heap.size) (hlr : gl ≠ gr) (hlp : gl ≠ gg) : Firm w gr gg (IO gr gl q r) :=
 fun s w1 w2 h hk => ⟨IQ2_firm hq hqr hqp hr hrr hrp () w1 w2 h.1 hk, (hk gl hl hlp hlr).trans h.2.1, h.2.2⟩

/-- The parts of a graph, one behind the other. -/
def graph4 (b : List Int) (next : Int) (objs : List S62) (slots : List (List (List Int))) (handles : List Int) (p3 : Nat) : Res Gr := (ints b 0 () p3).bind fun queue p4 => .ok ⟨objs, slots, handles, [], queue.1, next⟩ p4
def graph3 (b : List Int) (next : Int) (objs : List S62) (slots : List (List (List Int))) (p2 : Nat) : Res Gr := (ints b 1 () p2).bind fun handles p3 => graph4 b next objs slots handles.1 p3
def graph2 (b : List Int) (next : Int) (objs : List S62) (p1 : Nat) : Res Gr := (lst b (frames b) () p1).bind fun slots p2 => graph3 b next objs slots.1 p2
def graph1 (b : List Int) (next : Int) (p0 : Nat) : Res Gr := (lst b (obj b) 0 p0).bind fun objs p1 => graph2 b next objs.1 p1
/-- A graph that was read into block gg. -/
structure GotG (gg base : Nat) (g : Gr) (w : World) (v0 v1 v2 v4 : Value) : Prop where
 blk : w.heap[gg]? = some (.cells #[v0, v1, v2, .slice none 0 0, v4, .int .u64 g.next] 27 (0, 0))
 r0 : k62.R 62 w base (fun _ => True) v0 g.objs
 r1 : (Kd.slice 24 (Kd.slice 3 (Kd.int .i64))).R 31 w base (fun _ => True) v1 g.slots
 r2 : (Kd.int .i64).R 3 w base (fun _ => True) v2 g.handles
 r4 : (Kd.int .i64).R 3 w base (fun _ => True) v4 g.queue

set_option maxHeartbeats 8000000 in
set_option maxRecDepth 100000 in
theorem rall_any (w0 : World) (gr gg c pos : Nat) (B : Option Addr) (bs : List Int) (w : World) (hbb : Bytes bs) (hbl : bs.length ≤ 1000000000) (h : Rr w0 gr B c bs pos w) (hg : w.heap[gg]? = some (.cells #[.slice none 0 0, .slice none 0 0, .slice none 0 0, .slice none 0 0, .slice none 0 0, .int .u64 0] 27 (0, 0))) (h0 : w0.heap.size ≤ gg) :
  Calls Tryd.prog 47 #[.iface 91 (.pointer (some ⟨gr, 0, none⟩)), .pointer (some ⟨gg, 0, none⟩)] w
   (RPost (Bd w0 w gr gg 27 6 (fun _ => False)) (graph bs pos) fun g q w' => Rr w0 gr B c bs q w' ∧ Kept w w' (fun k => k = gr ∨ k = gg) ∧ ∃ v0 v1 v2 v4, GotG gg w.heap.size g w' v0 v1 v2 v4) := by
 have hmf : ∀ (fn : Fn) (first cap : Array Value) (w : World), (Instr.makeFunc fn first cap).run Tryd.prog w = .ok (.func fn first cap) w := fun _ _ _ _ => rfl
 have hst : ∀ (a : Addr) (fn : Fn) (first cap : Array Value) (w : World), (store a (.func fn first cap)).run Tryd.prog w = stored Tryd.prog w a (.func fn first cap) .plain := fun a fn first cap w => run_store Tryd.prog w a _ .plain rfl
 have hmr := method_r ⟨gr, 0, none⟩
 have hna := ahead_r ⟨gr, 0, none⟩
 have hne : gg ≠ gr := blk_ne hg h.blk (by decide)
 have hgl := blk_lt hg
 have hrl := blk_lt h.blk
 have HZ := Aside0.mk (show gg ≠ gr ∧ gg < w.heap.size ∧ gr < w.heap.size ∧ w0.heap.size ≤ gg ∧ w0.heap.size ≤ w.heap.size from ⟨hne, hgl, hrl, h0, h.bel.size⟩)
 have HW1 : Aside0 (RA w0 w gr gg w.heap.size (w.heap.size + 1) c B bs pos #[.slice none 0 0, .slice none 0 0, .slice none 0 0, .slice none 0 0, .slice none 0 0, .int .u64 0] ((w.alloc (.cells #[.iface 91 (.pointer (some ⟨gr, 0, none⟩))] 111)).alloc (.cells #[.func (.func 66) #[] #[.pointer (some ⟨w.heap.size, 0, none⟩)]] 114))) := ⟨by
  have hb : Below w.heap.size w ((w.alloc (.cells #[.iface 91 (.pointer (some ⟨gr, 0, none⟩))] 111)).alloc (.cells #[.func (.func 66) #[] #[.pointer (some ⟨w.heap.size, 0, none⟩)]] 114)) := below_alloc (below_alloc (Below.refl _ _) _) _
  refine ⟨RS.below ⟨h, Kept.refl _ _, hg⟩ hb, blk_alloc (heap_alloc_new w _) _, ?_⟩
  have := heap_alloc_new (w.alloc (.cells #[.iface 91 (.pointer (some ⟨gr, 0, none⟩))] 111)) (.cells #[.func (.func 66) #[] #[.pointer (some ⟨w.heap.size, 0, none⟩)]] 114)
  simpa using this⟩
 obtain ⟨R, hR⟩ : ∃ R, graph bs pos = R := ⟨_, rfl⟩
 obtain ⟨N, hN⟩ : ∃ N, num bs 4611686018427387905 pos = N := ⟨_, rfl⟩
 have HR : Aside0 (N.bind (fun next p0 => graph1 bs next p0) = R) := ⟨by rw [← hN, ← hR]; rfl⟩
 rw [hR]
 have HN := Aside0.mk hN
 clear h hg hR hN hgl hrl h0
 go_enter Tryd.func47, Tryd.ntmps47
 go_wp2_with (fail)
 refine wp_world (p := RA w0 w gr gg w.heap.size (w.heap.size + 1) c B bs pos #[.slice none 0 0, .slice none 0 0, .slice none 0 0, .slice none 0 0, .slice none 0 0, .int .u64 0]) HW1.out ?_
 intro w1 h1
 have H1 := Aside0.mk h1
 have hq1 := h1.cq
 clear h1 HW1
 go_still_tail 7, (by kernel_rfl)
 change wpList _ _ _ _ _ w1.drew
 have HD1 := Aside0.mk (H1.out.below (below_drew (Below.refl _ _)))
 generalize w1.drew = d1 at *
 have HC1 := Aside0.mk (rnumber_any w0 gr gg 5 27 c pos 4611686018427387905 B bs _ d1 hbb hbl HD1.out.rs.rr HD1.out.rs.blk (by simp) hne HZ.out.2.2.2.1 (by omega))
 rw [HN.out] at HC1
 clear hq1 H1
 go_wp2_with (fail)
 refine HC1.out.mono ?_
 clear HC1
 cases N with
 | bad p code =>
  rintro en w2 ⟨rfl, hb2⟩
  exact ⟨rfl, RPost.of_bad HR.out.symm (Bd.same HD1.out.rs.kept hb2 (fun k e => e.elim))⟩
 | ok next p =>
 rintro en w2 ⟨rfl, hr2, hk2, hb2⟩
 have H2 : Aside0 (RA w0 w gr gg w.heap.size (w.heap.size + 1) c B bs p #[.slice none 0 0, .slice none 0 0, .slice none 0 0, .slice none 0 0, .slice none 0 0, .int .u64 next] w2) := ⟨HD1.out.step hr2 hk2 (fun k e => e.elim .inl (fun e => .inr (.inl e))) (by have := HZ.out; omega) (by have := HZ.out; omega) hb2⟩
 clear hr2 hk2 hb2 HD1
 go_wp2_with (fail)
 refine wp_world (p := fun w3 => RA w0 w gr gg w.heap.size (w.heap.size + 1) c B bs p #[.slice none 0 0, .slice none 0 0, .slice none 0 0, .slice none 0 0, .slice none 0 0, .int .u64 next] w3 ∧ w3.heap[w2.heap.size]? = some (.cells #[.int .u64 0] 25 (0, 0))) ⟨H2.out.below (below_alloc (Below.refl _ _) _), heap_alloc_new w2 _⟩ ?_
 rintro w3 ⟨h3, hgl3⟩
 have HY := Aside0.mk (show w.heap.size < w2.heap.size ∧ w.heap.size + 1 < w2.heap.size from ⟨blk_lt H2.out.q, blk_lt H2.out.f⟩)
 have H3 := Aside0.mk h3
 have HG3 := Aside0.mk hgl3
 have hq3 := h3.cq
 clear h3 hgl3 H2
 go_still_tail 5, (by kernel_rfl)
 change wpList _ _ _ _ _ w3.drew
 have HD3 := Aside0.mk (H3.out.below (below_drew (Below.refl _ _)))
 have HDG3 : Aside0 (w3.drew.heap[w2.heap.size]? = some (.cells #[.int .u64 0] 25 (0, 0))) := HG3
 generalize w3.drew = d3 at *
 generalize w2.heap.size = gl at *
 have HX3 := Aside0.mk (show gl < d3.heap.size ∧ w.heap.size ≤ d3.heap.size from ⟨blk_lt HDG3.out, HD3.out.rs.kept.1⟩)
 obtain ⟨K1, hK1⟩ : ∃ K, lst bs (obj bs) 0 p = K := ⟨_, rfl⟩
 have HK1 : Aside0 (K1.bind (fun objs p1 => graph2 bs next objs.1 p1) = R) := ⟨by rw [← hK1]; exact HR.out⟩
 have HC2 := Aside0.mk (rlist_68_69 w0 gr B c bs hbb hbl gg 0 27 p _ (.pointer (some ⟨gl, 0, none⟩)) (.pointer (some ⟨w.heap.size, 0, none⟩)) (.pointer (some ⟨w.heap.size + 1, 0, none⟩)) d3 HD3.out.rs.rr HD3.out.rs.blk rfl hne HZ.out.2.2.2.1 (by decide) (obj bs) 0 (IO gr gl ⟨w.heap.size, 0, none⟩ ⟨w.heap.size + 1, 0, none⟩) (fun k => k = gl)
  ⟨⟨HD3.out.cq, HD3.out.cf⟩, HDG3.out, by omega, by omega⟩ (by have h1 := HZ.out; have h2 := HY.out; have h3 := HX3.out; exact IO_firm (by simp only; omega) (by simp only; omega) (by simp only; omega) (by simp only; omega) (by simp only; omega) (by simp only; omega) (by omega) (by omega) (by omega)) (fun k e => by have h1 := HZ.out; have h2 := HY.out; have h3 := HX3.out; omega) (fun k e => by have h1 := HZ.out; have h2 := HY.out; omega)
  (by have h1 := HZ.out; have h2 := HY.out; have h3 := HX3.out; exact robj_each w0 gr gl B c bs d3.heap.size ⟨w.heap.size, 0, none⟩ ⟨w.heap.size + 1, 0, none⟩ hbb hbl (by omega) (by omega) (by simp only; omega) (by simp only; omega) (by simp only; omega) (by simp only; omega) (by omega) (by omega) (by simp only; omega) (by simp only; omega) (by omega)))
 rw [hK1] at HC2
 clear hq3 H3 HG3 hK1 HR HN
 go_wp2_with (fail)
 refine HC2.out.mono ?_
 clear HC2
 cases K1 with
 | bad p code =>
  rintro en w4 ⟨rfl, hb2⟩
  exact ⟨rfl, RPost.of_bad HK1.out.symm (Bd.same HD3.out.rs.kept hb2 (fun k e => .inr (by have := HY.out; omega)))⟩
 | ok objs p1 =>
 rintro en w4 ⟨rfl, hr4, hi4, hk4, v0, hb4, hv0⟩
 have H4 : Aside0 (RA w0 w gr gg w.heap.size (w.heap.size + 1) c B bs p1 #[v0, .slice none 0 0, .slice none 0 0, .slice none 0 0, .slice none 0 0, .int .u64 next] w4) := ⟨HD3.out.step hr4 hk4 (fun k e => by have h2 := HY.out; rcases e with e | e | e <;> omega) (by have h1 := HZ.out; have h2 := HY.out; omega) (by have h1 := HZ.out; have h2 := HY.out; omega) hb4⟩
 have HV0 := Aside0.mk (Kd.R_lower hv0 HX3.out.2)
 have hq4 := H4.out.cq
 clear hr4 hi4 hk4 hb4 hv0 HD3 HDG3
 have HVv04 := HV0
 clear HV0
 go_wp2_with (fail)
 go_still_tail 5, (by kernel_rfl)
 change wpList _ _ _ _ _ w4.drew
 have HD4 := Aside0.mk (H4.out.below (below_drew (Below.refl _ _)))
 have HDv04 : Aside0 ((k62).R 62 w4.drew w.heap.size (fun _ => True) v0 objs.1) := ⟨Kd.R_below HVv04.out (below_drew (Below.refl _ _))⟩
 generalize w4.drew = d4 at *
 have HX4 := Aside0.mk (show w.heap.size < d4.heap.size ∧ w.heap.size + 1 < d4.heap.size from ⟨blk_lt HD4.out.q, blk_lt HD4.out.f⟩)
 obtain ⟨K4, hK4⟩ : ∃ K, lst bs (frames bs) () p1 = K := ⟨_, rfl⟩
 have HK4 : Aside0 (K4.bind (fun slots p2 => graph3 bs next objs.1 slots.1 p2) = R) := ⟨by rw [← hK4]; exact HK1.out⟩
 have HC4 := Aside0.mk (by have h1 := HZ.out; have h2 := HX4.out; exact rlist_73_74 w0 gr B c bs hbb hbl gg 1 27 p1 _ (.pointer (some ⟨w.heap.size, 0, none⟩)) (.pointer (some ⟨w.heap.size + 1, 0, none⟩)) d4 HD4.out.rs.rr HD4.out.rs.blk rfl hne HZ.out.2.2.2.1 (by decide) (frames bs) () (IQ2 gr ⟨w.heap.size, 0, none⟩ ⟨w.heap.size + 1, 0, none⟩) (fun _ => False) ⟨HD4.out.cq, HD4.out.cf⟩ (IQ2_firm (by simp only; omega) (by simp only; omega) (by simp only; omega) (by simp only; omega) (by simp only; omega) (by simp only; omega)) (fun _ hk => hk.elim) (fun _ hk => hk.elim) (rslot_each w0 gr B c bs d4.heap.size ⟨w.heap.size, 0, none⟩ ⟨w.heap.size + 1, 0, none⟩ hbb hbl (by omega) (by omega) (by simp only; omega) (by simp only; omega) (by simp only; omega) (by simp only; omega)))
 rw [show lst bs (frames bs) () p1 = K4 from hK4] at HC4
 clear hK4 HK1 hq4 H4 HVv04
 go_wp2_with (fail)
 refine HC4.out.mono ?_
 clear HC4
 cases K4 with
 | bad p code =>
  rintro en w5 ⟨rfl, hb2⟩
  exact ⟨rfl, RPost.of_bad HK4.out.symm (Bd.same HD4.out.rs.kept hb2 (fun k e => e.elim))⟩
 | ok slots p2 =>
 rintro en w5 ⟨rfl, hr, hi, hk, v1, hb, hv⟩
 have H5 : Aside0 (RA w0 w gr gg w.heap.size (w.heap.size + 1) c B bs p2 #[v0, v1, .slice none 0 0, .slice none 0 0, .slice none 0 0, .int .u64 next] w5) := ⟨HD4.out.step hr hk (fun k e => by rcases e with e | e | e; exact .inl e; exact .inr (.inl e); exact e.elim) (fun e => by have h1 := HZ.out; rcases e with e | e | e; omega; omega; exact e) (fun e => by have h1 := HZ.out; rcases e with e | e | e; omega; omega; exact e) hb⟩
 have HVv05 := Aside0.mk (R_past HDv04.out hk (fun k e => by have h1 := HZ.out; rcases e with e | e | e; omega; omega; exact e.elim))
 have HVv15 := Aside0.mk (Kd.R_lower (base' := w.heap.size) hv (Nat.le_of_lt HX4.out.1))
 have hq5 := H5.out.cq
 clear hr hi hk hb hv HD4 HDv04
 go_wp2_with (fail)
 go_still_tail 5, (by kernel_rfl)
 change wpList _ _ _ _ _ w5.drew
 have HD5 := Aside0.mk (H5.out.below (below_drew (Below.refl _ _)))
 have HDv05 : Aside0 ((k62).R 62 w5.drew w.heap.size (fun _ => True) v0 objs.1) := ⟨Kd.R_below HVv05.out (below_drew (Below.refl _ _))⟩
 have HDv15 : Aside0 ((Kd.slice 24 (Kd.slice 3 (Kd.int .i64))).R 31 w5.drew w.heap.size (fun _ => True) v1 slots.1) := ⟨Kd.R_below HVv15.out (below_drew (Below.refl _ _))⟩
 generalize w5.drew = d5 at *
 have HX5 := Aside0.mk (show w.heap.size < d5.heap.size ∧ w.heap.size + 1 < d5.heap.size from ⟨blk_lt HD5.out.q, blk_lt HD5.out.f⟩)
 obtain ⟨K5, hK5⟩ : ∃ K, ints bs 1 () p2 = K := ⟨_, rfl⟩
 have HK5 : Aside0 (K5.bind (fun handles p3 => graph4 bs next objs.1 slots.1 handles.1 p3) = R) := ⟨by rw [← hK5]; exact HK4.out⟩
 have HC5 := Aside0.mk (by have h1 := HZ.out; have h2 := HX5.out; exact rlist_70_77 w0 gr B c bs hbb hbl gg 2 27 p2 _ (.pointer (some ⟨w.heap.size, 0, none⟩)) d5 HD5.out.rs.rr HD5.out.rs.blk rfl hne HZ.out.2.2.2.1 (by decide) (plain bs 1) () (IQ gr ⟨w.heap.size, 0, none⟩) (fun _ => False) HD5.out.cq (IQ_firm (by simp only; omega) (by simp only; omega) (by simp only; omega)) (fun _ hk => hk.elim) (fun _ hk => hk.elim) (rhandle_each w0 gr B c bs d5.heap.size ⟨w.heap.size, 0, none⟩ hbb hbl (by omega) (by omega) (by simp only; omega) (by simp only; omega)))
 rw [show lst bs (plain bs 1) () p2 = K5 from hK5] at HC5
 clear hK5 HK4 hq5 H5 HVv05 HVv15
 go_wp2_with (fail)
 refine HC5.out.mono ?_
 clear HC5
 cases K5 with
 | bad p code =>
  rintro en w6 ⟨rfl, hb2⟩
  exact ⟨rfl, RPost.of_bad HK5.out.symm (Bd.same HD5.out.rs.kept hb2 (fun k e => e.elim))⟩
 | ok handles p3 =>
 rintro en w6 ⟨rfl, hr, hi, hk, v2, hb, hv⟩
 have H6 : Aside0 (RA w0 w gr gg w.heap.size (w.heap.size + 1) c B bs p3 #[v0, v1, v2, .slice none 0 0, .slice none 0 0, .int .u64 next] w6) := ⟨HD5.out.step hr hk (fun k e => by rcases e with e | e | e; exact .inl e; exact .inr (.inl e); exact e.elim) (fun e => by have h1 := HZ.out; rcases e with e | e | e; omega; omega; exact e) (fun e => by have h1 := HZ.out; rcases e with e | e | e; omega; omega; exact e) hb⟩
 have HVv06 := Aside0.mk (R_past HDv05.out hk (fun k e => by have h1 := HZ.out; rcases e with e | e | e; omega; omega; exact e.elim))
 have HVv16 := Aside0.mk (R_past HDv15.out hk (fun k e => by have h1 := HZ.out; rcases e with e | e | e; omega; omega; exact e.elim))
 have HVv26 := Aside0.mk (Kd.R_lower (base' := w.heap.size) hv (Nat.le_of_lt HX5.out.1))
 have hq6 := H6.out.cq
 have hf6 := H6.out.cf
 clear hr hi hk hb hv HD5 HDv05 HDv15
 go_wp2_with (fail)
 go_still_tail 5, (by kernel_rfl)
 change wpList _ _ _ _ _ w6.drew
 have HD6 := Aside0.mk (H6.out.below (below_drew (Below.refl _ _)))
 have HDv06 : Aside0 ((k62).R 62 w6.drew w.heap.size (fun _ => True) v0 objs.1) := ⟨Kd.R_below HVv06.out (below_drew (Below.refl _ _))⟩
 have HDv16 : Aside0 ((Kd.slice 24 (Kd.slice 3 (Kd.int .i64))).R 31 w6.drew w.heap.size (fun _ => True) v1 slots.1) := ⟨Kd.R_below HVv16.out (below_drew (Below.refl _ _))⟩
 have HDv26 : Aside0 ((Kd.int .i64).R 3 w6.drew w.heap.size (fun _ => True) v2 handles.1) := ⟨Kd.R_below HVv26.out (below_drew (Below.refl _ _))⟩
 generalize w6.drew = d6 at *
 have HX6 := Aside0.mk (show w.heap.size < d6.heap.size ∧ w.heap.size + 1 < d6.heap.size from ⟨blk_lt HD6.out.q, blk_lt HD6.out.f⟩)
 obtain ⟨K6, hK6⟩ : ∃ K, ints bs 0 () p3 = K := ⟨_, rfl⟩
 have HK6 : Aside0 (K6.bind (fun queue p4 => .ok ⟨objs.1, slots.1, handles.1, [], queue.1, next⟩ p4) = R) := ⟨by rw [← hK6]; exact HK5.out⟩
 have HC6 := Aside0.mk (by have h1 := HZ.out; have h2 := HX6.out; exact rlist_70_66 w0 gr B c bs hbb hbl gg 4 27 p3 _ (.pointer (some ⟨w.heap.size, 0, none⟩)) d6 HD6.out.rs.rr HD6.out.rs.blk rfl hne HZ.out.2.2.2.1 (by decide) (plain bs 0) () (IQ gr ⟨w.heap.size, 0, none⟩) (fun _ => False) HD6.out.cq (IQ_firm (by simp only; omega) (by simp only; omega) (by simp only; omega)) (fun _ hk => hk.elim) (fun _ hk => hk.elim) (rplain_each w0 gr B c bs d6.heap.size ⟨w.heap.size, 0, none⟩ hbb hbl (by omega) (by omega) (by simp only; omega) (by simp only; omega)))
 rw [show lst bs (plain bs 0) () p3 = K6 from hK6] at HC6
 clear hK6 HK5 hq6 hf6 H6 HVv06 HVv16 HVv26
 go_wp2_with (fail)
 refine HC6.out.mono ?_
 clear HC6
 cases K6 with
 | bad p code =>
  rintro en w7 ⟨rfl, hb2⟩
  exact ⟨rfl, RPost.of_bad HK6.out.symm (Bd.same HD6.out.rs.kept hb2 (fun k e => e.elim))⟩
 | ok queue p4 =>
 rintro en w7 ⟨rfl, hr, hi, hk, v4, hb, hv⟩
 have H7 : Aside0 (RA w0 w gr gg w.heap.size (w.heap.size + 1) c B bs p4 #[v0, v1, v2, .slice none 0 0, v4, .int .u64 next] w7) := ⟨HD6.out.step hr hk (fun k e => by rcases e with e | e | e; exact .inl e; exact .inr (.inl e); exact e.elim) (fun e => by have h1 := HZ.out; rcases e with e | e | e; omega; omega; exact e) (fun e => by have h1 := HZ.out; rcases e with e | e | e; omega; omega; exact e) hb⟩
 have HVv07 := Aside0.mk (R_past HDv06.out hk (fun k e => by have h1 := HZ.out; rcases e with e | e | e; omega; omega; exact e.elim))
 have HVv17 := Aside0.mk (R_past HDv16.out hk (fun k e => by have h1 := HZ.out; rcases e with e | e | e; omega; omega; exact e.elim))
 have HVv27 := Aside0.mk (R_past HDv26.out hk (fun k e => by have h1 := HZ.out; rcases e with e | e | e; omega; omega; exact e.elim))
 have HVv47 := Aside0.mk (Kd.R_lower (base' := w.heap.size) hv (Nat.le_of_lt HX6.out.1))
 clear hr hi hk hb hv HD6 HDv06 HDv16 HDv26
 go_wp2_with (fail)
 go_end0
 have h := H7.out.rs
 exact RPost.of_ok HK6.out.symm ⟨h.rr, h.kept.mono (fun k e => e.elim .inl (fun e => e.elim .inr (fun e => e.elim))), v0, v1, v2, v4, h.blk, HVv07.out, HVv17.out, HVv27.out, HVv47.out⟩
end Go.Proofs.YtihjjkoddphmiaaDoor.img

namespace Go.Proofs.YtihjjkoddphmiaaDoor.img
open Go.RowKit Go.Proofs.YtihjjkoddphmiaaDoorW.PrintWords Go.Proofs.YtihjjkoddphmiaaDoorW.PrintLast Go.Proofs.YtihjjkoddphmiaaDoorW.PrintMore Go.Proofs.YtihjjkoddphmiaaDoor.PImageRound
set_option linter.unusedVariables false
set_option linter.unusedSimpArgs false

theorem wraps_u32 (n : Int) (h₀ : 0 ≤ n) (h₁ : n < 2 ^ 32) : IntKind.u32.wrap n = n := by
 rw [IntKind.wrap_u32]
 omega
theorem xor_u32 (a b : Nat) (ha : a < 4294967296) (hb : b < 4294967296) : bits BinOp.xor IntKind.u32 (a : Int) (b : Int) = ((a ^^^ b : Nat) : Int) := by
 have hlt : a ^^^ b < 4294967296 := by
  have : (4294967296 : Nat) = 2 ^ 32 := by decide
  rw [this] at ha hb ⊢
  exact Nat.xor_lt_two_pow ha hb
 unfold bits
 have e32 : IntKind.u32.bits = 32 := rfl
 have h : ((BitVec.ofInt IntKind.u32.bits (a : Int)) ^^^ (BitVec.ofInt IntKind.u32.bits (b : Int))).toNat = a ^^^ b := by
  rw [BitVec.toNat_xor]
  simp only [BitVec.toNat_ofInt, e32]
  have e1 : ((a : Int) % ((2 ^ 32 : Nat) : Int)).toNat = a := by
   have : ((2 ^ 32 : Nat) : Int) = 4294967296 := by decide
   rw [this]
   omega
  have e2 : ((b : Int) % ((2 ^ 32 : Nat) : Int)).toNat = b := by
   have : ((2 ^ 32 : Nat) : Int) = 4294967296 := by decide
   rw [this]
   omega
  rw [e1, e2]
 simp only [h]
 exact wraps_u32 _ (by omega) (by omega)
theorem sum_l (l : List Int) (hb : Bytes l) (hl : l.length ≤ 1000000000000) : ∀ (d i s : Nat), l.length - i = d → i ≤ l.length → s < 4294967296 → Ev (fun k => image_sum.l0 k (s : Int) l (l.length : Int) (i : Int)) ((fnvFrom s (l.drop i) : Nat) : Int) := by
 intro d
 induction d with
 | zero =>
  intro i s hd hi hs
  have e : i = l.length := by omega
  subst e
  refine Ev.step (f := fun _ => some (s : Int)) (fun k => ?_) (by simpa [fnvFrom] using Ev.now (s : Int))
  simp only [image_sum.l0]
  rw [if_neg (by omega)]
 | succ d ih =>
  intro i s hd hi hs
  have hlt : i < l.length := by omega
  rw [drop_get l i 0 hlt]
  have hrd : rd l (i : Int) = l.getD i 0 := by simp [rd]
  obtain ⟨hx, hc⟩ := byte_at hb hlt
  have hf : fnvFrom s (l.getD i 0 :: l.drop (i + 1)) = fnvFrom (fstep s (l.getD i 0).toNat) (l.drop (i + 1)) := rfl
  rw [hf]
  have := ih (i + 1) (fstep s (l.getD i 0).toNat) (by omega) (by omega) (fstep_lt _ _)
  refine Ev.step (fun k => ?_) this
  simp only [image_sum.l0]
  rw [if_pos (by omega), if_pos (by omega), if_pos (by omega), hrd, wrap_small (by omega)]
  have e : (bits BinOp.xor IntKind.u32 (s : Int) ((l.getD i 0) % 4294967296)) * 16777619 % 4294967296 = ((fstep s (l.getD i 0).toNat : Nat) : Int) := by
   have e1 : (l.getD i 0) % 4294967296 = (((l.getD i 0).toNat : Nat) : Int) := by omega
   rw [e1, xor_u32 s _ hs (by omega)]
   unfold fstep
   simp
  rw [e]
  rfl
theorem sum_ev (l : List Int) (hb : Bytes l) (hl : l.length ≤ 1000000000000) : Ev (fun k => image_sum.f k l) ((fnv l : Nat) : Int) := by
 have := sum_l l hb hl l.length 0 2166136261 (by omega) (by omega) (by omega)
 simpa [image_sum.f, fnv, fnvFrom] using this

end Go.Proofs.YtihjjkoddphmiaaDoor.img

namespace Go.Proofs.YtihjjkoddphmiaaDoor.img
open Go.RowKit Go.Proofs.YtihjjkoddphmiaaDoorW.PrintWords Go.Proofs.YtihjjkoddphmiaaDoorW.PrintLast Go.Proofs.YtihjjkoddphmiaaDoorW.PrintMore Go.Proofs.YtihjjkoddphmiaaDoor.PImageRound
set_option linter.unusedVariables false
set_option linter.unusedSimpArgs false

/-- The raw words are of their kind. -/
def Words (g : Gr) : Prop := ∀ o ∈ g.objs, ∀ x ∈ o.f4, 0 ≤ x ∧ x < 18446744073709551616

end Go.Proofs.YtihjjkoddphmiaaDoor.img

namespace Go.Proofs.YtihjjkoddphmiaaDoor.img
open Go.RowKit Go.Proofs.YtihjjkoddphmiaaDoorW.PrintWords Go.Proofs.YtihjjkoddphmiaaDoorW.PrintLast Go.Proofs.YtihjjkoddphmiaaDoorW.PrintMore Go.Proofs.YtihjjkoddphmiaaDoor.PImageRound
set_option linter.unusedVariables false
set_option linter.unusedSimpArgs false

theorem R_block {w : World} {g e base : Nat} {k : IntKind} {xs : List Int} (h : w.heap[g]? = some (.cells (encs (Value.int k) xs).toArray e (0, 0))) (hb : base ≤ g) (hl : xs.length ≤ maxLen) : (Kd.int k).R e w base (fun _ => True) (.slice (some ⟨g, 0, none⟩) xs.length xs.length) xs :=
 Kd.R_of_own ⟨by simp [encs], .inr ⟨g, xs.length, _, rfl, hb, h, Nat.le_refl _, hl, by simp [encs], by rw [Nat.mul_one, List.take_of_length_le (by simp [encs])]⟩⟩ (fun _ _ => trivial)

/-- A checksum's bytes. -/
def sb (n : Nat) : List Int := [((n % 256 : Nat) : Int), ((n / 256 % 256 : Nat) : Int), ((n / 65536 % 256 : Nat) : Int), ((n / 16777216 % 256 : Nat) : Int)]
end Go.Proofs.YtihjjkoddphmiaaDoor.img

namespace Go.Proofs.YtihjjkoddphmiaaDoor.img
open Go.RowKit Go.Proofs.YtihjjkoddphmiaaDoorW.PrintWords Go.Proofs.YtihjjkoddphmiaaDoorW.PrintLast Go.Proofs.YtihjjkoddphmiaaDoorW.PrintMore Go.Proofs.YtihjjkoddphmiaaDoor.PImageRound
set_option linter.unusedVariables false
set_option linter.unusedSimpArgs false

/-- The head is there. -/
def beginR (b : List Int) : Res Unit := if b.length < 4 then .bad b.length 160 else if b.take 4 = head then .ok () 4 else .bad 0 161
/-- The checksum is there, and nothing behind it. -/
def endR (b : List Int) (p : Nat) : Res Unit :=
 if b.length - p < 4 then .bad b.length 160 else if (b.drop p).take 4 = sb (fnv (b.take p)) then (if p + 4 < b.length then .bad (p + 4) 162 else .ok () p) else .bad p 163

/-- A string of bytes tells them. -/
theorem str_inj : ∀ {xs ys : List Int}, Bytes xs → Bytes ys → (strOfNums xs).toList = (strOfNums ys).toList → xs = ys := by
 intro xs ys hx hy h
 rw [ByteArray.toList_eq, ByteArray.toList_eq, strOfNums_data, strOfNums_data] at h
 induction xs generalizing ys with
 | nil =>
  cases ys with
  | nil => rfl
  | cons y r => simp at h
 | cons x r ih =>
  cases ys with
  | nil => simp at h
  | cons y q =>
   simp only [List.map_cons, List.cons.injEq] at h
   have h1 := hx x (by simp)
   have h2 := hy y (by simp)
   have e := congrArg UInt8.toNat h.1
   simp at e
   rw [ih (fun z hz => hx z (by simp [hz])) (fun z hz => hy z (by simp [hz])) h.2]
   congr 1
   omega
theorem head_bytes : Bytes head := by
 intro x hx
 simp [head] at hx
 omega
theorem str_head {xs : List Int} (hb : Bytes xs) : ((strOfNums xs).toList == [77, 68, 73, 49]) = decide (xs = head) := by
 have e : (strOfNums head).toList = [77, 68, 73, 49] := by
  rw [ByteArray.toList_eq]
  rfl
 by_cases h : xs = head
 ·rw [h, e]
  simp
 ·rw [decide_eq_false h, beq_eq_false_iff_ne]
  intro k
  exact h (str_inj hb head_bytes (k.trans e.symm))

set_option maxHeartbeats 4000000 in
set_option maxRecDepth 100000 in
theorem rbegin_any (w0 : World) (gr c : Nat) (B : Option Addr) (bs : List Int) (w : World) (hbb : Bytes bs) (hbl : bs.length ≤ 1000000000) (hlc : bs.length ≤ c) (h : Rr w0 gr B c bs 0 w) :
  Calls Tryd.prog 56 #[.pointer (some ⟨gr, 0, none⟩)] w (RPost (fun w' => Kept w w' (fun k => k = gr) ∧ Below w0.heap.size w0 w') (beginR bs) fun _ q w' => Rr w0 gr B c bs q w' ∧ Kept w w' (fun k => k = gr)) := by
 have hc0 : w.cell? ⟨gr, 0, none⟩ = some (.slice B bs.length c) := (blk_cell h.blk 0).trans rfl
 have hc1 : w.cell? ⟨gr, 1, none⟩ = some (.int .i64 0) := (blk_cell h.blk 1).trans rfl
 have hf1 := blk_frozen h.blk 1
 have HR := Aside0.mk h
 obtain ⟨R, hR⟩ : ∃ R, beginR bs = R := ⟨_, rfl⟩
 have HH := Aside0.mk hR
 rw [hR]
 clear hR h
 by_cases hl : bs.length < 4
 ·have HB : Aside0 (R = .bad bs.length 160) := ⟨by rw [← HH.out]; unfold beginR; rw [if_pos hl]⟩
  have HC := Aside0.mk (rshort_any w0 gr c 0 B bs w HR.out)
  have p1 : (bs.length : Int) < 4 := by omega
  go_enter Tryd.func56, Tryd.ntmps56
  go_wp2_with (fail)
  refine HC.out.mono ?_
  rintro e w' ⟨rfl, rfl⟩
  exact ⟨rfl, RPost.of_bad HB.out ⟨Kept.refl _ _, HR.out.bel⟩⟩
 have p1 : ¬ (bs.length : Int) < 4 := by omega
 have p2 : (4 : Int) ≤ (c : Int) := by omega
 have hC := Kd.C_take (m := 4) (Kd.C_below HR.out.row HR.out.bel) (by omega)
 have hlen : (bs.take 4).length = 4 := by rw [List.length_take]; omega
 rw [hlen] at hC
 have hcv := Kd.C_string (P := Tryd.prog) (A := B) (c := c) Tryd.underlying47 Tryd.underlying5 Tryd.underlying9 hC
 have hsh := str_head (xs := bs.take 4) (fun x hx => hbb x (List.mem_of_mem_take hx))
 by_cases hd : bs.take 4 = head
 ·have HB : Aside0 (R = .ok () 4) := ⟨by rw [← HH.out]; unfold beginR; rw [if_neg hl, if_pos hd]⟩
  rw [decide_eq_true hd] at hsh
  generalize hs : strOfNums (bs.take 4) = s at *
  clear hs hd hC hlen
  go_enter Tryd.func56, Tryd.ntmps56
  go_wp2_with (fail)
  go_end0
  exact RPost.of_ok HB.out ⟨HR.out.set (q := 4) (by omega), Kept.setCell (S := fun k => k = gr) (p := ⟨gr, 1, none⟩) (Kept.refl w _) (.inl rfl) _⟩
 ·have HB : Aside0 (R = .bad 0 161) := ⟨by rw [← HH.out]; unfold beginR; rw [if_neg hl, if_neg hd]⟩
  rw [decide_eq_false hd] at hsh
  generalize hs : strOfNums (bs.take 4) = s at *
  clear hs hd hC hlen
  go_enter Tryd.func56, Tryd.ntmps56
  go_wp2_with (fail)
  exact ⟨rfl, RPost.of_bad HB.out ⟨Kept.refl _ _, HR.out.bel⟩⟩

theorem add_pos (a : Addr) {k : Nat} (h : 0 < k) : a.add k = ⟨a.block, a.off + k, none⟩ := by unfold Addr.add; split <;> simp_all
theorem sb_get (N : Nat) : (sb N).getD 0 0 = (N : Int) % 256 ∧ (sb N).getD 1 0 = (N : Int) / 256 % 256 ∧ (sb N).getD 2 0 = (N : Int) / 65536 % 256 ∧ (sb N).getD 3 0 = (N : Int) / 16777216 % 256 := by
 refine ⟨?_, ?_, ?_, ?_⟩ <;> simp [sb]
theorem four_eq {b : List Int} {p N : Nat} (h : ¬ b.length - p < 4) (hj : ∀ j, j < 4 → b.getD (p + j) 0 = (sb N).getD j 0) : (b.drop p).take 4 = sb N := by
 apply List.ext_getElem?
 intro j
 by_cases hj4 : j < 4
 ·have := hj j hj4
  rw [List.getElem?_take, if_pos hj4, List.getElem?_drop]
  rw [List.getD_eq_getElem?_getD, List.getD_eq_getElem?_getD, List.getElem?_eq_getElem (by omega), List.getElem?_eq_getElem (by show j < 4; exact hj4)] at this
  rw [List.getElem?_eq_getElem (by omega), List.getElem?_eq_getElem (by show j < 4; exact hj4)]
  simpa using this
 ·rw [List.getElem?_eq_none (by rw [List.length_take]; omega), List.getElem?_eq_none (by show 4 ≤ j; omega)]
theorem four_ne {b : List Int} {p N j : Nat} (h : ¬ b.length - p < 4) (hj4 : j < 4) (hj : b.getD (p + j) 0 ≠ (sb N).getD j 0) : ¬ (b.drop p).take 4 = sb N := by
 intro e
 apply hj
 rw [← e, List.getD_eq_getElem?_getD, List.getD_eq_getElem?_getD, List.getElem?_take, if_pos hj4, List.getElem?_drop]

set_option maxHeartbeats 8000000 in
set_option maxRecDepth 100000 in
theorem rend_any (w0 : World) (gr c p : Nat) (B : Option Addr) (bs : List Int) (w : World) (hbb : Bytes bs) (hbl : bs.length ≤ 1000000000) (hlc : bs.length ≤ c) (h : Rr w0 gr B c bs p w) :
  Calls Tryd.prog 57 #[.pointer (some ⟨gr, 0, none⟩)] w (RPost (fun w' => Below w.heap.size w w' ∧ Below w0.heap.size w0 w') (endR bs p) fun _ q w' => Below w.heap.size w w') := by
 have hc0 : w.cell? ⟨gr, 0, none⟩ = some (.slice B bs.length c) := (blk_cell h.blk 0).trans rfl
 have hc1 : w.cell? ⟨gr, 1, none⟩ = some (.int .i64 p) := (blk_cell h.blk 1).trans rfl
 have HR := Aside0.mk h
 have hple := h.le
 obtain ⟨R, hR⟩ : ∃ R, endR bs p = R := ⟨_, rfl⟩
 have HH := Aside0.mk hR
 rw [hR]
 clear hR h
 have hwr : IntKind.i64.wrap ((bs.length : Int) - (p : Int)) = (bs.length : Int) - p := by rw [IntKind.wrap_i64]; omega
 by_cases hl : bs.length - p < 4
 ·have HB : Aside0 (R = .bad bs.length 160) := ⟨by rw [← HH.out]; unfold endR; rw [if_pos hl]⟩
  have HC : Aside0 (∀ nq, Calls Tryd.prog 79 #[.pointer (some ⟨gr, 0, none⟩)] (w.drewN nq) fun e w' => e = .panicked (failed bs.length 160) ∧ w.drewN nq = w') := ⟨fun nq => rshort_any w0 gr c p B bs _ (HR.out.below (pw_below_drewN (Below.refl _ _) nq))⟩
  have p1 : (bs.length : Int) - (p : Int) < 4 := by omega
  have t1 : decide ((bs.length : Int) - (p : Int) < 4) = true := by simp only [decide_eq_true_eq]; omega
  clear hl
  go_enter Tryd.func57, Tryd.ntmps57
  go_wp2_with (fail)
  go_quiet (fail)
  go_wp2_with (fail)
  refine (HC.out _).mono ?_
  rintro e w' ⟨rfl, rfl⟩
  exact ⟨rfl, RPost.of_bad HB.out ⟨pw_below_drewN (Below.refl _ _) _, pw_below_drewN HR.out.bel _⟩⟩
 have HL := Aside0.mk hl
 have p1 : ¬ (bs.length : Int) - (p : Int) < 4 := by omega
 have t1 : decide ((bs.length : Int) - (p : Int) < 4) = false := by simp only [decide_eq_false_iff_not]; omega
 have p2 : (p : Int) ≤ (c : Int) := by omega
 have hpb : p + 4 ≤ bs.length := by omega
 obtain ⟨k, hk⟩ := (sum_ev (bs.take p) (fun x hx => hbb x (List.mem_of_mem_take hx)) (by rw [List.length_take]; omega)).rounds
 have hlen : (bs.take p).length = p := by rw [List.length_take]; omega
 have HS : Aside0 (∀ wx, Below w0.heap.size w0 wx → Calls Tryd.prog 48 #[.slice B p c] wx fun e w' => e = .returned (.int .u32 ((fnv (bs.take p) : Nat) : Int)) ∧ Drawn0 wx w') := ⟨fun wx hx => by
  have hC := Kd.C_take (m := p) (Kd.C_below HR.out.row hx) (by omega)
  have := image_sum.calls k B c (bs.take p) _ wx hC (by rw [hlen]; omega) hk
  rw [hlen] at this
  exact this⟩
 obtain ⟨N, hN⟩ : ∃ N, fnv (bs.take p) = N := ⟨_, rfl⟩
 have HN := Aside0.mk hN
 rw [hN] at HS
 clear hN hk hlen hl
 go_enter Tryd.func57, Tryd.ntmps57
 go_wp2_with (fail)
 go_quiet (fail)
 go_wp2_with (fail)
 refine wp_world (p := fun w1 => Rr w0 gr B c bs p w1 ∧ Below w.heap.size w w1) ⟨HR.out.below (pw_below_drewN (Below.refl _ _) _), pw_below_drewN (Below.refl _ _) _⟩ ?_
 rintro w1 ⟨h1, hb1⟩
 have H1 := Aside0.mk h1
 have HB1 := Aside0.mk hb1
 have hd0 : w1.cell? ⟨gr, 0, none⟩ = some (.slice B bs.length c) := (blk_cell h1.blk 0).trans rfl
 have hd1 : w1.cell? ⟨gr, 1, none⟩ = some (.int .i64 p) := (blk_cell h1.blk 1).trans rfl
 clear h1 hb1 hc0 hc1
 go_still_tail 9, (by kernel_rfl)
 change wpList _ _ _ _ _ w1.drew
 go_wp2_with (fail)
 refine (HS.out _ (below_drew1 H1.out.bel)).mono ?_
 rintro en w2 ⟨rfl, hd⟩
 obtain ⟨m, rfl⟩ := hd.out
 clear hd HS
 go_wp2_with (fail)
 refine wp_world (p := fun w2 => Rr w0 gr B c bs p w2 ∧ Below w.heap.size w w2) ⟨H1.out.below (pw_below_drewN (Below.refl _ _) _), below_step HB1.out (pw_below_drewN (Below.refl _ _) _)⟩ ?_
 rintro w2 ⟨h2, hb2⟩
 have H2 := Aside0.mk h2
 have HB2 := Aside0.mk hb2
 clear h2 hb2 hd0 hd1
 go_loopw [27] (fun a wr => ∃ (i : Nat), a = .int .i64 i ∧ i ≤ 4 ∧ Aside0 (∀ j, j < i → bs.getD (p + j) 0 = (sb N).getD j 0) ∧ Aside0 (Rr w0 gr B c bs p wr ∧ Below w.heap.size w wr)) (fun a _ => 4 - (intOf a).toNat)
 case atStart => exact ⟨0, rfl, by omega, ⟨fun j hj => absurd hj (by omega)⟩, ⟨H2.out, HB2.out⟩⟩
 case round =>
  clear H2 HB2 H1 HB1
  obtain ⟨i, rfl, hi, HJ, HRB⟩ := hrel
  have hc0 : wr.cell? ⟨gr, 0, none⟩ = some (.slice B bs.length c) := (blk_cell HRB.out.1.blk 0).trans rfl
  have hc1 : wr.cell? ⟨gr, 1, none⟩ = some (.int .i64 p) := (blk_cell HRB.out.1.blk 1).trans rfl
  obtain ⟨s0, s1, s2, s3⟩ := sb_get N
  have HSB := Aside0.mk (And.intro s0 (And.intro s1 (And.intro s2 s3)))
  clear s0 s1 s2 s3
  by_cases h4 : i = 4
  ·subst h4
   have hw4 : IntKind.i64.wrap ((p : Int) + 4) = (p : Int) + 4 := by rw [IntKind.wrap_i64]; omega
   by_cases hm : p + 4 < bs.length
   ·have HB : Aside0 (R = .bad (p + 4) 162) := ⟨by rw [← HH.out]; unfold endR; rw [if_neg HL.out, HN.out, if_pos (four_eq HL.out HJ.out), if_pos hm]⟩
    have t2 : decide ((p : Int) + 4 < (bs.length : Int)) = true := by simp only [decide_eq_true_eq]; omega
    have p3 : (p : Int) + 4 < (bs.length : Int) := by omega
    clear hm
    go_wp2_with (fail)
    go_quiet (fail)
    go_wp2_with (fail)
    exact ⟨rfl, RPost.of_bad (q := p + 4) HB.out ⟨below_step HRB.out.2 (pw_below_drewN (Below.refl _ _) _), pw_below_drewN HRB.out.1.bel _⟩⟩
   ·have HB : Aside0 (R = .ok () p) := ⟨by rw [← HH.out]; unfold endR; rw [if_neg HL.out, HN.out, if_pos (four_eq HL.out HJ.out), if_neg hm]⟩
    have t2 : decide ((p : Int) + 4 < (bs.length : Int)) = false := by simp only [decide_eq_false_iff_not]; omega
    have p3 : ¬ (p : Int) + 4 < (bs.length : Int) := by omega
    clear hm
    go_wp2_with (fail)
    go_quiet (fail)
    go_wp2_with (fail)
    go_end0
    exact RPost.of_ok HB.out (below_step HRB.out.2 (pw_below_drewN (Below.refl _ _) _))
  obtain ⟨ad, rfl, hcell⟩ := Kd.at_int HRB.out.1.row ((p + i : Nat) : Int) (by omega) (by omega)
  obtain ⟨hx, hy⟩ := byte_at hbb (show p + i < bs.length by omega)
  have hrd : rd bs ((p + i : Nat) : Int) = bs.getD (p + i) 0 := by unfold rd; rw [Int.toNat_natCast]
  rw [hrd, hx] at hcell
  simp only [Int.toNat_natCast] at hcell
  have HX := Aside0.mk hx
  clear hrd hx
  generalize (bs.getD (p + i) 0).toNat = y at hcell hy HX
  have hblk : (ad.add (p + i)).block < w0.heap.size := World.block_lt_of_cell? _ _ hcell
  have hcw : wr.cell? (ad.add (p + i)) = some (.int .u8 y) := (cell_block (HRB.out.1.bel.block _ hblk)).trans hcell
  clear hcell hblk
  rcases (show i = 0 ∨ i = 1 ∨ i = 2 ∨ i = 3 by omega) with rfl | rfl | rfl | rfl
  ·have hsb : (sb N).getD 0 0 = (N : Int) % 256 := HSB.out.1
   have HSBI := Aside0.mk hsb
   clear hsb
   have hwi : IntKind.i64.wrap (p : Int) = p := by rw [IntKind.wrap_i64]; omega
   have q0 : (0 : Int) ≤ (p : Int) := by omega
   have q1 : (p : Int) < (bs.length : Int) := by omega
   have hcw2 : wr.cell? (ad.add p) = some (.int .u8 y) := hcw
   by_cases hcmp : (y : Int) = (N : Int) % 256
   ·have t3 : ((y : Int) != (N : Int) % 256) = false := by simp only [bne_eq_false_iff_eq]; exact hcmp
    have HJ2 : Aside0 (∀ j, j < 0 + 1 → bs.getD (p + j) 0 = (sb N).getD j 0) := ⟨fun j hj => by
     by_cases e : j = 0
     ·subst e
      rw [HX.out, HSBI.out, hcmp]
     ·exact HJ.out j (by omega)⟩
    have HCM := Aside0.mk hcmp
    clear hcmp
    go_wp2_with (fail)
    go_quiet (fail)
    go_wp2_with (fail)
    go_roundw
    case rel => exact ⟨0 + 1, by go_num, by omega, HJ2, ⟨HRB.out.1.below (pw_below_drewN (Below.refl _ _) _), below_step HRB.out.2 (pw_below_drewN (Below.refl _ _) _)⟩⟩
    case measure => simp [intOf]
   ·have t3 : ((y : Int) != (N : Int) % 256) = true := by simp only [bne_iff_ne]; exact hcmp
    have HB : Aside0 (R = .bad p 163) := ⟨by rw [← HH.out]; unfold endR; rw [if_neg HL.out, HN.out, if_neg (four_ne HL.out (show 0 < 4 by omega) (by rw [HX.out, HSBI.out]; exact hcmp))]⟩
    clear hcmp
    go_wp2_with (fail)
    go_quiet (fail)
    go_wp2_with (fail)
    exact ⟨rfl, RPost.of_bad HB.out ⟨below_step HRB.out.2 (pw_below_drewN (Below.refl _ _) _), pw_below_drewN HRB.out.1.bel _⟩⟩
  ·have hsb : (sb N).getD 1 0 = (N : Int) / 256 % 256 := HSB.out.2.1
   have HSBI := Aside0.mk hsb
   clear hsb
   have hwi : IntKind.i64.wrap ((p : Int) + 1) = (p : Int) + 1 := by rw [IntKind.wrap_i64]; omega
   have hnn : ((p : Int) + 1).toNat = p + 1 := by omega
   have q0 : (0 : Int) ≤ (p : Int) + 1 := by omega
   have q1 : (p : Int) + 1 < (bs.length : Int) := by omega
   have hcw2 : wr.cell? ⟨ad.block, ad.off + (p + 1), none⟩ = some (.int .u8 y) := by rw [← add_pos ad (by omega)]; exact hcw
   by_cases hcmp : (y : Int) = (N : Int) / 256 % 256
   ·have t3 : ((y : Int) != (N : Int) / 256 % 256) = false := by simp only [bne_eq_false_iff_eq]; exact hcmp
    have HJ2 : Aside0 (∀ j, j < 1 + 1 → bs.getD (p + j) 0 = (sb N).getD j 0) := ⟨fun j hj => by
     by_cases e : j = 1
     ·subst e
      rw [HX.out, HSBI.out, hcmp]
     ·exact HJ.out j (by omega)⟩
    have HCM := Aside0.mk hcmp
    clear hcmp
    go_wp2_with (fail)
    go_quiet (fail)
    go_wp2_with (fail)
    go_roundw
    case rel => exact ⟨1 + 1, by go_num, by omega, HJ2, ⟨HRB.out.1.below (pw_below_drewN (Below.refl _ _) _), below_step HRB.out.2 (pw_below_drewN (Below.refl _ _) _)⟩⟩
    case measure => simp [intOf]
   ·have t3 : ((y : Int) != (N : Int) / 256 % 256) = true := by simp only [bne_iff_ne]; exact hcmp
    have HB : Aside0 (R = .bad p 163) := ⟨by rw [← HH.out]; unfold endR; rw [if_neg HL.out, HN.out, if_neg (four_ne HL.out (show 1 < 4 by omega) (by rw [HX.out, HSBI.out]; exact hcmp))]⟩
    clear hcmp
    go_wp2_with (fail)
    go_quiet (fail)
    go_wp2_with (fail)
    exact ⟨rfl, RPost.of_bad HB.out ⟨below_step HRB.out.2 (pw_below_drewN (Below.refl _ _) _), pw_below_drewN HRB.out.1.bel _⟩⟩
  ·have hsb : (sb N).getD 2 0 = (N : Int) / 65536 % 256 := HSB.out.2.2.1
   have HSBI := Aside0.mk hsb
   clear hsb
   have hwi : IntKind.i64.wrap ((p : Int) + 2) = (p : Int) + 2 := by rw [IntKind.wrap_i64]; omega
   have hnn : ((p : Int) + 2).toNat = p + 2 := by omega
   have q0 : (0 : Int) ≤ (p : Int) + 2 := by omega
   have q1 : (p : Int) + 2 < (bs.length : Int) := by omega
   have hcw2 : wr.cell? ⟨ad.block, ad.off + (p + 2), none⟩ = some (.int .u8 y) := by rw [← add_pos ad (by omega)]; exact hcw
   by_cases hcmp : (y : Int) = (N : Int) / 65536 % 256
   ·have t3 : ((y : Int) != (N : Int) / 65536 % 256) = false := by simp only [bne_eq_false_iff_eq]; exact hcmp
    have HJ2 : Aside0 (∀ j, j < 2 + 1 → bs.getD (p + j) 0 = (sb N).getD j 0) := ⟨fun j hj => by
     by_cases e : j = 2
     ·subst e
      rw [HX.out, HSBI.out, hcmp]
     ·exact HJ.out j (by omega)⟩
    have HCM := Aside0.mk hcmp
    clear hcmp
    go_wp2_with (fail)
    go_quiet (fail)
    go_wp2_with (fail)
    go_roundw
    case rel => exact ⟨2 + 1, by go_num, by omega, HJ2, ⟨HRB.out.1.below (pw_below_drewN (Below.refl _ _) _), below_step HRB.out.2 (pw_below_drewN (Below.refl _ _) _)⟩⟩
    case measure => simp [intOf]
   ·have t3 : ((y : Int) != (N : Int) / 65536 % 256) = true := by simp only [bne_iff_ne]; exact hcmp
    have HB : Aside0 (R = .bad p 163) := ⟨by rw [← HH.out]; unfold endR; rw [if_neg HL.out, HN.out, if_neg (four_ne HL.out (show 2 < 4 by omega) (by rw [HX.out, HSBI.out]; exact hcmp))]⟩
    clear hcmp
    go_wp2_with (fail)
    go_quiet (fail)
    go_wp2_with (fail)
    exact ⟨rfl, RPost.of_bad HB.out ⟨below_step HRB.out.2 (pw_below_drewN (Below.refl _ _) _), pw_below_drewN HRB.out.1.bel _⟩⟩
  ·have hsb : (sb N).getD 3 0 = (N : Int) / 16777216 % 256 := HSB.out.2.2.2
   have HSBI := Aside0.mk hsb
   clear hsb
   have hwi : IntKind.i64.wrap ((p : Int) + 3) = (p : Int) + 3 := by rw [IntKind.wrap_i64]; omega
   have hnn : ((p : Int) + 3).toNat = p + 3 := by omega
   have q0 : (0 : Int) ≤ (p : Int) + 3 := by omega
   have q1 : (p : Int) + 3 < (bs.length : Int) := by omega
   have hcw2 : wr.cell? ⟨ad.block, ad.off + (p + 3), none⟩ = some (.int .u8 y) := by rw [← add_pos ad (by omega)]; exact hcw
   by_cases hcmp : (y : Int) = (N : Int) / 16777216 % 256
   ·have t3 : ((y : Int) != (N : Int) / 16777216 % 256) = false := by simp only [bne_eq_false_iff_eq]; exact hcmp
    have HJ2 : Aside0 (∀ j, j < 3 + 1 → bs.getD (p + j) 0 = (sb N).getD j 0) := ⟨fun j hj => by
     by_cases e : j = 3
     ·subst e
      rw [HX.out, HSBI.out, hcmp]
     ·exact HJ.out j (by omega)⟩
    have HCM := Aside0.mk hcmp
    clear hcmp
    go_wp2_with (fail)
    go_quiet (fail)
    go_wp2_with (fail)
    go_roundw
    case rel => exact ⟨3 + 1, by go_num, by omega, HJ2, ⟨HRB.out.1.below (pw_below_drewN (Below.refl _ _) _), below_step HRB.out.2 (pw_below_drewN (Below.refl _ _) _)⟩⟩
    case measure => simp [intOf]
   ·have t3 : ((y : Int) != (N : Int) / 16777216 % 256) = true := by simp only [bne_iff_ne]; exact hcmp
    have HB : Aside0 (R = .bad p 163) := ⟨by rw [← HH.out]; unfold endR; rw [if_neg HL.out, HN.out, if_neg (four_ne HL.out (show 3 < 4 by omega) (by rw [HX.out, HSBI.out]; exact hcmp))]⟩
    clear hcmp
    go_wp2_with (fail)
    go_quiet (fail)
    go_wp2_with (fail)
    exact ⟨rfl, RPost.of_bad HB.out ⟨below_step HRB.out.2 (pw_below_drewN (Below.refl _ _) _), pw_below_drewN HRB.out.1.bel _⟩⟩
end Go.Proofs.YtihjjkoddphmiaaDoor.img

namespace Go.Proofs.YtihjjkoddphmiaaDoor.img
open Go.RowKit Go.Proofs.YtihjjkoddphmiaaDoorW.PrintWords Go.Proofs.YtihjjkoddphmiaaDoorW.PrintMore Go.Proofs.YtihjjkoddphmiaaDoor.PImageRound
set_option linter.unusedVariables false
set_option linter.unusedSimpArgs false

set_option maxHeartbeats 4000000 in
set_option maxRecDepth 100000 in
theorem catch_idle (p q r : Addr) (w : World) :
  CallsD Tryd.prog 55 #[.pointer (some p), .pointer (some q), .pointer (some r)] .returning w fun e u' w' => e = .returned (.tuple #[]) ∧ u' = .returning ∧ w' = w := by
 refine callsD_of_wpS Tryd.func55 rfl fun c₀ cs hu => ?_
 apply wpS_seq
 apply wpS_region
 simp [wpOpsS, go_sem, recoverD, hu, Tryd.ntmps55, Exit.thenS]
 refine wpS_of_wp ?_
 change Code.wp _ _ _ ⟨#[.pointer (some p), .pointer (some q), .pointer (some r), undef, undef, undef, .nilIface, undef, undef, undef, undef, undef, undef, undef, undef, undef, undef], []⟩ _
 go_wp2_with (fail)
 cases c₀
 simp_all [bodyPostS, results, Tryd.results55]

theorem in_world {n : Nat} {Q : Exit → Act → World → Prop} {e : Exit} {a : Act} {w1 : World} {p : World → Prop} (h : p w1) (k : ∀ w2, p w2 → Exit.inBlock n Q e a w2) : Exit.inBlock n Q e a w1 := k w1 h
theorem in_normal {n : Nat} {Q : Exit → Act → World → Prop} {a : Act} {w1 : World} (h : Q .normal a w1) : Exit.inBlock n Q .normal a w1 := h
theorem assert_fail (a : Array Value) (w : World) : (Instr.typeAssert (.iface 90 (.agg a)) 20 90 true).run Tryd.prog w = .ok (.tuple #[.agg a, .bool true]) w := by kernel_rfl

set_option maxHeartbeats 8000000 in
set_option maxRecDepth 100000 in
theorem catch_failed (Bb gg ga ge : Nat) (x y : Int) (cg : Array Value) (v1 v2 : Value) (older : List PanicEntry) (w : World) (hg : w.heap[gg]? = some (.cells cg 27 (0, 0))) (hcg : cg.size = 6) (ha : w.heap[ga]? = some (.cells #[v1] 3 (0, 0))) (he : w.heap[ge]? = some (.cells #[v2] 40 (0, 0))) (hB : Bb ≤ gg ∧ Bb ≤ ga ∧ Bb ≤ ge) :
  CallsD Tryd.prog 55 #[.pointer (some ⟨gg, 0, none⟩), .pointer (some ⟨ga, 0, none⟩), .pointer (some ⟨ge, 0, none⟩)] (.panicking ({ v := .iface 90 (.agg #[.int .i64 x, .int .i64 y]), recovered := false } :: older)) w fun e u' w' =>
   e = .returned (.tuple #[]) ∧ u' = .panicking ({ v := .iface 90 (.agg #[.int .i64 x, .int .i64 y]), recovered := true } :: older) ∧ Below Bb w w' ∧ Kept w w' (fun k => k = gg ∨ k = ga ∨ k = ge) ∧
    w'.heap[gg]? = some (.cells #[.slice none 0 0, .slice none 0 0, .slice none 0 0, .slice none 0 0, .slice none 0 0, .int .u64 0] 27 (0, 0)) ∧ w'.heap[ga]? = some (.cells #[.int .i64 x] 3 (0, 0)) ∧ w'.heap[ge]? = some (.cells #[.int .i64 y] 40 (0, 0)) := by
 have has := assert_fail
 refine callsD_of_wpS Tryd.func55 rfl fun c₀ cs hu => ?_
 apply wpS_seq
 apply wpS_region
 simp [wpOpsS, go_sem, recoverD, hu, Tryd.ntmps55, Exit.thenS]
 refine wpS_of_wp ?_
 change Code.wp _ _ _ ⟨#[.pointer (some ⟨gg, 0, none⟩), .pointer (some ⟨ga, 0, none⟩), .pointer (some ⟨ge, 0, none⟩), undef, undef, undef, .iface 90 (.agg #[.int .i64 x, .int .i64 y]), undef, undef, undef, undef, undef, undef, undef, undef, undef, undef], []⟩ _
 go_wp2_with (fail)
 obtain ⟨g0, g1, g2, g3, g4, g5, rfl⟩ : ∃ g0 g1 g2 g3 g4 g5, cg = #[g0, g1, g2, g3, g4, g5] := by
  match cg, hcg with
  | ⟨[g0, g1, g2, g3, g4, g5]⟩, _ => exact ⟨g0, g1, g2, g3, g4, g5, rfl⟩
 have n1 : gg ≠ ga := blk_ne hg ha (by decide)
 have n2 : gg ≠ ge := blk_ne hg he (by decide)
 have n3 : ga ≠ ge := blk_ne ha he (by decide)
 have l1 := blk_lt hg
 have l2 := blk_lt ha
 have l3 := blk_lt he
 refine wp_world (p := fun w1 => Below w.heap.size w w1 ∧ w1.heap[w.heap.size]? = some (.cells #[.int .i64 x, .int .i64 y] 90 (0, 0))) ⟨below_alloc (Below.refl _ _) _, heap_alloc_new w _⟩ ?_
 rintro w1 ⟨hb1, hx⟩
 have HB := Aside0.mk hb1
 have HG := Aside0.mk (blk_below hg hb1)
 have HA := Aside0.mk (blk_below ha hb1)
 have HE := Aside0.mk (blk_below he hb1)
 have n4 : w.heap.size ≠ gg := by omega
 have n5 : w.heap.size ≠ ga := by omega
 have n6 : w.heap.size ≠ ge := by omega
 have x0 : w1.cell? ⟨w.heap.size, 0, none⟩ = some (.int .i64 x) := (blk_cell hx 0).trans rfl
 have x1 : w1.cell? ⟨w.heap.size, 1, none⟩ = some (.int .i64 y) := (blk_cell hx 1).trans rfl
 have a0 : w1.cell? ⟨ga, 0, none⟩ = some v1 := (blk_cell HA.out 0).trans rfl
 have e0 : w1.cell? ⟨ge, 0, none⟩ = some v2 := (blk_cell HE.out 0).trans rfl
 have c0 : w1.cell? ⟨gg, 0, none⟩ = some g0 := (blk_cell HG.out 0).trans rfl
 have c1 : w1.cell? ⟨gg, 1, none⟩ = some g1 := (blk_cell HG.out 1).trans rfl
 have c2 : w1.cell? ⟨gg, 2, none⟩ = some g2 := (blk_cell HG.out 2).trans rfl
 have c3 : w1.cell? ⟨gg, 3, none⟩ = some g3 := (blk_cell HG.out 3).trans rfl
 have c4 : w1.cell? ⟨gg, 4, none⟩ = some g4 := (blk_cell HG.out 4).trans rfl
 have c5 : w1.cell? ⟨gg, 5, none⟩ = some g5 := (blk_cell HG.out 5).trans rfl
 have fa := blk_frozen HA.out 0
 have fe := blk_frozen HE.out 0
 have f0 := blk_frozen HG.out 0
 have f1 := blk_frozen HG.out 1
 have f2 := blk_frozen HG.out 2
 have f3 := blk_frozen HG.out 3
 have f4 := blk_frozen HG.out 4
 have f5 := blk_frozen HG.out 5
 have HBB := Aside0.mk hB
 have HLT := Aside0.mk l1
 clear hb1 hx hg ha he l1 l2 l3 hcg hB
 go_region
 refine in_world (p := fun w' => Below Bb w w' ∧ Kept w w' (fun k => k = gg ∨ k = ga ∨ k = ge) ∧ w'.heap[gg]? = some (.cells #[.slice none 0 0, .slice none 0 0, .slice none 0 0, .slice none 0 0, .slice none 0 0, .int .u64 0] 27 (0, 0)) ∧ w'.heap[ga]? = some (.cells #[.int .i64 x] 3 (0, 0)) ∧ w'.heap[ge]? = some (.cells #[.int .i64 y] 40 (0, 0))) ⟨?_, ?_, ?_, ?_, ?_⟩ ?_
 ·refine below_drew ?_
  have k0 : Below Bb w w1 := ⟨HB.out.os, HB.out.tape, HB.out.output, HB.out.size, fun k hk => HB.out.block k (by have := HBB.out; have := HLT.out; omega)⟩
  have hB := HBB.out
  exact (((((((k0.setCell (p := ⟨gg, 0, none⟩) hB.1 _).setCell (p := ⟨gg, 1, none⟩) hB.1 _).setCell (p := ⟨gg, 2, none⟩) hB.1 _).setCell (p := ⟨gg, 3, none⟩) hB.1 _).setCell (p := ⟨gg, 4, none⟩) hB.1 _).setCell (p := ⟨gg, 5, none⟩) hB.1 _).setCell (p := ⟨ga, 0, none⟩) hB.2.1 _).setCell (p := ⟨ge, 0, none⟩) hB.2.2 _
 ·refine Kept.drew ?_
  have k0 := (Kept.of_below HB.out (fun k => k = gg ∨ k = ga ∨ k = ge))
  exact (((((((k0.setCell (p := ⟨gg, 0, none⟩) (.inl (.inl rfl)) _).setCell (p := ⟨gg, 1, none⟩) (.inl (.inl rfl)) _).setCell (p := ⟨gg, 2, none⟩) (.inl (.inl rfl)) _).setCell (p := ⟨gg, 3, none⟩) (.inl (.inl rfl)) _).setCell (p := ⟨gg, 4, none⟩) (.inl (.inl rfl)) _).setCell (p := ⟨gg, 5, none⟩) (.inl (.inl rfl)) _).setCell (p := ⟨ga, 0, none⟩) (.inl (.inr (.inl rfl))) _).setCell (p := ⟨ge, 0, none⟩) (.inl (.inr (.inr rfl))) _
 ·have k0 := blk_set (blk_set (blk_set (blk_set (blk_set (blk_set HG.out 0 (.slice none 0 0)) 1 (.slice none 0 0)) 2 (.slice none 0 0)) 3 (.slice none 0 0)) 4 (.slice none 0 0)) 5 (.int .u64 0)
  refine blk_drew ?_
  exact blk_far (blk_far k0 n1 _) n2 _
 ·have k0 := fun (w2 : World) (h : w2.heap[ga]? = some (.cells #[v1] 3 (0, 0))) => blk_set h 0 (.int .i64 x)
  refine blk_drew ?_
  refine blk_far (k0 _ ?_) n3 _
  exact blk_far (blk_far (blk_far (blk_far (blk_far (blk_far HA.out (fun e => n1 e.symm) _) (fun e => n1 e.symm) _) (fun e => n1 e.symm) _) (fun e => n1 e.symm) _) (fun e => n1 e.symm) _) (fun e => n1 e.symm) _
 ·have k0 := fun (w2 : World) (h : w2.heap[ge]? = some (.cells #[v2] 40 (0, 0))) => blk_set h 0 (.int .i64 y)
  refine blk_drew ?_
  refine k0 _ ?_
  exact blk_far (blk_far (blk_far (blk_far (blk_far (blk_far (blk_far HE.out (fun e => n2 e.symm) _) (fun e => n2 e.symm) _) (fun e => n2 e.symm) _) (fun e => n2 e.symm) _) (fun e => n2 e.symm) _) (fun e => n2 e.symm) _) (fun e => n3 e.symm) _
 intro w9 h9
 have H9 := Aside0.mk h9
 clear h9
 refine in_normal ?_
 refine ⟨rfl, _, rfl, .tuple #[], by simp [results, Tryd.results55], rfl, rfl, H9.out⟩
end Go.Proofs.YtihjjkoddphmiaaDoor.img

namespace Go.Proofs.YtihjjkoddphmiaaDoor.img
open Go.RowKit Go.Proofs.YtihjjkoddphmiaaDoorW.PrintWords Go.Proofs.YtihjjkoddphmiaaDoorW.PrintLast Go.Proofs.YtihjjkoddphmiaaDoorW.PrintMore Go.Proofs.YtihjjkoddphmiaaDoor.PImageRound
set_option linter.unusedVariables false
set_option linter.unusedSimpArgs false

section
variable {σ α : Type}
theorem many_all {each : σ → Nat → Res (α × σ)} {ok : α → Prop} (h : ∀ s pos x p, each s pos = .ok x p → ok x.1) : ∀ (n : Nat) (s : σ) (pos : Nat) (y : List α × σ) (p : Nat), many each n s pos = .ok y p → y.1.length = n ∧ ∀ x ∈ y.1, ok x
 | 0, s, pos, y, p, hh => by
  injection hh with h1 h2
  subst h1
  simp
 | n + 1, s, pos, y, p, hh => by
  rw [many] at hh
  obtain ⟨x, p1, h1, h2⟩ := bind_ok hh
  obtain ⟨z, p2, h3, h4⟩ := bind_ok h2
  injection h4 with h4 h5
  subst h4
  obtain ⟨a, b⟩ := many_all h n _ _ _ _ h3
  refine ⟨by simp [a], fun w hw => ?_⟩
  rcases List.mem_cons.1 hw with rfl | hw
  ·exact h _ _ _ _ h1
  ·exact b w hw
theorem lst_all {b : List Int} {each : σ → Nat → Res (α × σ)} {ok : α → Prop} (h : ∀ s pos x p, each s pos = .ok x p → ok x.1) {s : σ} {pos p : Nat} {y : List α × σ} (hh : lst b each s pos = .ok y p) : y.1.length ≤ b.length ∧ ∀ x ∈ y.1, ok x := by
 unfold lst at hh
 obtain ⟨n, q, h1, h2⟩ := bind_ok hh
 by_cases hc : b.length - q < n
 ·rw [if_pos hc] at h2; cases h2
 rw [if_neg hc] at h2
 obtain ⟨a, c⟩ := many_all h _ _ _ _ _ h2
 exact ⟨by omega, c⟩
end
theorem ints_all {b : List Int} {more : Int} {s : Unit} {pos p : Nat} {y : List Int × Unit} (h : ints b more s pos = .ok y p) : y.1.length ≤ b.length := (lst_all (ok := fun _ => True) (fun _ _ _ _ _ => trivial) h).1
theorem frames_all {b : List Int} {s : Unit} {pos p : Nat} {y : List (List Int) × Unit} (h : frames b s pos = .ok y p) : y.1.length ≤ b.length ∧ ∀ f ∈ y.1, f.length ≤ b.length := lst_all (ok := fun f => f.length ≤ b.length) (fun _ _ _ _ h => ints_all h) h
theorem numAt_le {b : List Int} {most from_ : Nat} : ∀ (d i pos acc n p : Nat), 10 - i = d → numAt b most from_ i pos acc = .ok n p → n ≤ most := by
 intro d
 induction d with
 | zero =>
  intro i pos acc n p hd h
  rw [numAt, if_pos (by omega)] at h
  cases h
 | succ d ih =>
  intro i pos acc n p hd h
  rw [numAt, if_neg (by omega)] at h
  by_cases hp : b.length ≤ pos
  ·rw [if_pos hp] at h; cases h
  rw [if_neg hp] at h
  generalize (b.getD pos 0).toNat = c at *
  simp only at h
  by_cases hw : (i = 9 ∧ 1 < c % 128 ∧ c < 128) ∨ (0 < i ∧ c = 0)
  ·rw [if_pos hw] at h; cases h
  rw [if_neg hw] at h
  by_cases hlt : c < 128
  ·rw [if_pos hlt] at h
   by_cases hm : most < acc + c * 128 ^ i
   ·rw [if_pos hm] at h; cases h
   ·rw [if_neg hm] at h
    injection h with h1 h2
    omega
  ·rw [if_neg hlt] at h
   exact ih (i + 1) _ _ _ _ (by omega) h
theorem raw_all {b : List Int} {s : Unit} {pos p : Nat} {y : Int × Unit} (h : raw b s pos = .ok y p) : 0 ≤ y.1 ∧ y.1 < 18446744073709551616 := by
 obtain ⟨n, q, h1, h2⟩ := bind_ok h
 injection h2 with h2 h3
 subst h2
 have := numAt_le _ _ _ _ _ _ rfl h1
 unfold any64 at this
 simp only
 omega
theorem obj_all {b : List Int} {s : Int} {pos p : Nat} {y : S62 × Int} (h : obj b s pos = .ok y p) : (y.1.f3.length ≤ b.length ∧ y.1.f4.length ≤ b.length) ∧ ∀ x ∈ y.1.f4, 0 ≤ x ∧ x < 18446744073709551616 := by
 unfold obj at h
 obtain ⟨step, p0, h0, h⟩ := bind_ok h
 obtain ⟨kind', p1, h1, h⟩ := bind_ok h
 obtain ⟨site', p2, h2, h⟩ := bind_ok h
 obtain ⟨ptrs, p3, h3, h⟩ := bind_ok h
 obtain ⟨raws, p4, h4, h⟩ := bind_ok h
 injection h with h e2
 subst h
 have a := lst_all (ok := fun x : Int => 0 ≤ x ∧ x < 18446744073709551616) (fun _ _ _ _ h => raw_all h) h4
 exact ⟨⟨ints_all h3, a.1⟩, a.2⟩

/-- What is read of a whole graph. -/
structure Fits (n : Nat) (g : Gr) : Prop where
 objs : g.objs.length ≤ n
 slots : g.slots.length ≤ n
 handles : g.handles.length ≤ n
 queue : g.queue.length ≤ n
 obj : ∀ o ∈ g.objs, o.f3.length ≤ n ∧ o.f4.length ≤ n
 frames : ∀ fr ∈ g.slots, fr.length ≤ n ∧ ∀ f ∈ fr, f.length ≤ n
 next : 0 ≤ g.next ∧ g.next ≤ 4611686018427387905
 words : Words g
theorem graph_fits {b : List Int} {pos p : Nat} {g : Gr} (h : graph b pos = .ok g p) : Fits b.length g := by
 unfold graph at h
 obtain ⟨next, p0, h0, h⟩ := bind_ok h
 obtain ⟨objs, p1, h1, h⟩ := bind_ok h
 obtain ⟨slots, p2, h2, h⟩ := bind_ok h
 obtain ⟨handles, p3, h3, h⟩ := bind_ok h
 obtain ⟨queue, p4, h4, h⟩ := bind_ok h
 injection h with h e
 subst h
 have a := lst_all (ok := fun o : S62 => (o.f3.length ≤ b.length ∧ o.f4.length ≤ b.length) ∧ ∀ x ∈ o.f4, 0 ≤ x ∧ x < 18446744073709551616) (fun _ _ _ _ h => obj_all h) h1
 have c := lst_all (ok := fun fr : List (List Int) => fr.length ≤ b.length ∧ ∀ f ∈ fr, f.length ≤ b.length) (fun _ _ _ _ h => frames_all h) h2
 have d := numAt_le _ _ _ _ _ _ rfl h0
 unfold great at d
 exact ⟨a.1, c.1, ints_all h3, ints_all h4, fun o ho => (a.2 o ho).1, c.2, ⟨by simp only; omega, by simp only; omega⟩, fun o ho => (a.2 o ho).2⟩
/-- The registry is told of the objects. -/
def whole (g : Gr) : Gr := { g with registry := finals g.objs }
theorem Fits.tame {n : Nat} {g : Gr} (h : Fits n g) (hn : n ≤ 1000000) : Tame (whole g) := by
 have h1 := h.objs
 have h2 := h.slots
 have h3 := h.handles
 have h4 := h.queue
 have h5 := finalsFrom_len g.objs 0
 exact ⟨⟨by show g.objs.length ≤ _; omega, by show g.slots.length ≤ _; omega, fun fr hf => by have := (h.frames fr hf).1; omega, fun fr hf f hff => by have := (h.frames fr hf).2 f hff; omega, by show g.handles.length ≤ _; omega, by show (finals g.objs).length ≤ _; unfold finals; omega, by show g.queue.length ≤ _; omega⟩,
  fun o ho => by have := h.obj o ho; omega⟩
end Go.Proofs.YtihjjkoddphmiaaDoor.img

namespace Go.Proofs.YtihjjkoddphmiaaDoor.img
open Go.RowKit Go.Proofs.YtihjjkoddphmiaaDoorW.PrintWords Go.Proofs.YtihjjkoddphmiaaDoorW.PrintLast Go.Proofs.YtihjjkoddphmiaaDoorW.PrintMore Go.Proofs.YtihjjkoddphmiaaDoor.PImageRound
set_option linter.unusedVariables false
set_option linter.unusedSimpArgs false

/-- What bytes say. -/
def readR (b : List Int) : Res Gr :=
 (beginR b).bind fun _ p => (graph b p).bind fun g p1 => (endR b p1).bind fun _ _ => if okB (whole g) = true then .ok (whole g) 0 else .bad 0 164

/-- A graph that was handed back. -/
structure Got (w w' : World) (g : Gr) (v0 v1 v2 v3 v4 : Value) : Prop where
 r0 : k62.R 62 w' w.heap.size (fun _ => True) v0 g.objs
 r1 : (Kd.slice 24 (Kd.slice 3 (Kd.int .i64))).R 31 w' w.heap.size (fun _ => True) v1 g.slots
 r2 : (Kd.int .i64).R 3 w' w.heap.size (fun _ => True) v2 g.handles
 r3 : (Kd.int .i64).R 3 w' w.heap.size (fun _ => True) v3 g.registry
 r4 : (Kd.int .i64).R 3 w' w.heap.size (fun _ => True) v4 g.queue
/-- What Read comes to. -/
def ReadPost (w : World) (r : Res Gr) (e : Ending) (w' : World) : Prop :=
 Below w.heap.size w w' ∧ match r with
 | .ok g _ => ∃ v0 v1 v2 v3 v4, e = .returned (.tuple #[.agg #[v0, v1, v2, v3, v4, .int .u64 g.next], .int .i64 0, .int .i64 0]) ∧ Got w w' g v0 v1 v2 v3 v4
 | .bad q c => e = .returned (.tuple #[.agg #[.slice none 0 0, .slice none 0 0, .slice none 0 0, .slice none 0 0, .slice none 0 0, .int .u64 0], .int .i64 q, .int .i64 c])

/-- The results' variables. -/
structure RV (w : World) (wi : World) : Prop where
 bel : Below w.heap.size w wi
 blk : ∃ cs, wi.heap[w.heap.size]? = some (.cells cs 27 (0, 0)) ∧ cs.size = 6
 at_ : wi.heap[w.heap.size + 1]? = some (.cells #[.int .i64 0] 3 (0, 0))
 er : wi.heap[w.heap.size + 1 + 1]? = some (.cells #[.int .i64 0] 40 (0, 0))
theorem RV.below {w wi wj : World} (h : RV w wi) (hb : Below wi.heap.size wi wj) : RV w wj := by
 obtain ⟨cs, h1, h2⟩ := h.blk
 exact ⟨below_step h.bel hb, ⟨cs, blk_below h1 hb, h2⟩, blk_below h.at_ hb, blk_below h.er hb⟩

abbrev Z6 : Array Value := #[.slice none 0 0, .slice none 0 0, .slice none 0 0, .slice none 0 0, .slice none 0 0, .int .u64 0]

set_option maxHeartbeats 8000000 in
set_option maxRecDepth 100000 in
/-- Where the body gives up. -/
theorem gives_up (w wi : World) (q : Nat) (c : Int) (tmps : Array Value) (h2 : tmps[2]? = some (.pointer (some ⟨w.heap.size, 0, none⟩))) (h3 : tmps[3]? = some (.pointer (some ⟨w.heap.size + 1, 0, none⟩))) (h4 : tmps[4]? = some (.pointer (some ⟨w.heap.size + 1 + 1, 0, none⟩)))
  (h : RV w wi) (R : Ending → World → Prop) (hR : ∀ e w', ReadPost w (.bad q c) e w' → R e w') :
  Leaves Tryd.prog Tryd.f22 tmps R [{ target := .fn (.func 55) #[.pointer (some ⟨w.heap.size, 0, none⟩), .pointer (some ⟨w.heap.size + 1, 0, none⟩), .pointer (some ⟨w.heap.size + 1 + 1, 0, none⟩)], args := #[] }] (.panicking (failed q c)) wi := by
 obtain ⟨cs, hb, hn⟩ := h.blk
 refine leaves_cons (f := 55) (args := #[.pointer (some ⟨w.heap.size, 0, none⟩), .pointer (some ⟨w.heap.size + 1, 0, none⟩), .pointer (some ⟨w.heap.size + 1 + 1, 0, none⟩)]) (by simp) (by simp [go_sem]) ?_
 refine (catch_failed w.heap.size w.heap.size (w.heap.size + 1) (w.heap.size + 1 + 1) q c cs _ _ [] wi hb hn h.at_ h.er ⟨Nat.le_refl _, Nat.le_succ _, by omega⟩).mono ?_
 rintro e u' w' ⟨rfl, rfl, hbb, hk, hg, ha, he⟩
 show Leaves Tryd.prog Tryd.f22 tmps R [] .returning w'
 have z0 : w'.cell? ⟨w.heap.size, 0, none⟩ = some (.slice none 0 0) := (blk_cell hg 0).trans rfl
 have z1 : w'.cell? ⟨w.heap.size, 1, none⟩ = some (.slice none 0 0) := (blk_cell hg 1).trans rfl
 have z2 : w'.cell? ⟨w.heap.size, 2, none⟩ = some (.slice none 0 0) := (blk_cell hg 2).trans rfl
 have z3 : w'.cell? ⟨w.heap.size, 3, none⟩ = some (.slice none 0 0) := (blk_cell hg 3).trans rfl
 have z4 : w'.cell? ⟨w.heap.size, 4, none⟩ = some (.slice none 0 0) := (blk_cell hg 4).trans rfl
 have z5 : w'.cell? ⟨w.heap.size, 5, none⟩ = some (.int .u64 0) := (blk_cell hg 5).trans rfl
 have a0 : w'.cell? ⟨w.heap.size + 1, 0, none⟩ = some (.int .i64 q) := (blk_cell ha 0).trans rfl
 have e0 : w'.cell? ⟨w.heap.size + 1 + 1, 0, none⟩ = some (.int .i64 c) := (blk_cell he 0).trans rfl
 have hbw : Below w.heap.size w w' := ⟨hbb.os.trans h.bel.os, hbb.tape.trans h.bel.tape, hbb.output.trans h.bel.output, Nat.le_trans h.bel.size hbb.size, fun k hk => (hbb.block k hk).trans (h.bel.block k hk)⟩
 refine ⟨.tuple #[.agg Z6, .int .i64 q, .int .i64 c], ?_, hR _ _ ⟨hbw, rfl⟩⟩
 simp [results, Tryd.results22, go_sem, h2, h3, h4, z0, z1, z2, z3, z4, z5, a0, e0]

theorem RV.kept {w wi wj : World} {S : Nat → Prop} (h : RV w wi) (hb : Below w.heap.size w wj) (hk : Kept wi wj S) (h1 : ¬ S (w.heap.size + 1)) (h2 : ¬ S (w.heap.size + 1 + 1)) (hg : ∃ cs, wj.heap[w.heap.size]? = some (.cells cs 27 (0, 0)) ∧ cs.size = 6) : RV w wj :=
 ⟨hb, hg, blk_kept h.at_ hk h1, blk_kept h.er hk h2⟩
theorem graph_reg {b : List Int} {pos p : Nat} {g : Gr} (h : graph b pos = .ok g p) : g.registry = [] := by
 unfold graph at h
 obtain ⟨next, p0, h0, h⟩ := bind_ok h
 obtain ⟨objs, p1, h1, h⟩ := bind_ok h
 obtain ⟨slots, p2, h2, h⟩ := bind_ok h
 obtain ⟨handles, p3, h3, h⟩ := bind_ok h
 obtain ⟨queue, p4, h4, h⟩ := bind_ok h
 injection h with h e
 subst h
 rfl

set_option maxHeartbeats 8000000 in
set_option maxRecDepth 100000 in
theorem Read_any (B : Option Addr) (c : Nat) (bs : List Int) (w : World) (hbb : Bytes bs) (hbl : bs.length ≤ 1000000) (hlc : bs.length ≤ c) (hC : Kd.C (Kd.int .u8) w B bs.length bs) (hT : Tabs w) :
  Calls Tryd.prog 22 #[.slice B bs.length c] w (ReadPost w (readR bs)) := by
 have hmf : ∀ (fn : Fn) (first cap : Array Value) (w : World), (Instr.makeFunc fn first cap).run Tryd.prog w = .ok (.func fn first cap) w := fun _ _ _ _ => rfl
 have HT := Aside0.mk hT
 obtain ⟨R, hR⟩ : ∃ R, readR bs = R := ⟨_, rfl⟩
 obtain ⟨R1, hR1⟩ : ∃ R1, beginR bs = R1 := ⟨_, rfl⟩
 have HR : Aside0 (R1.bind (fun _ p => (graph bs p).bind fun g p1 => (endR bs p1).bind fun _ _ => if okB (whole g) = true then .ok (whole g) 0 else .bad 0 164) = R) := ⟨by rw [← hR1]; exact hR⟩
 have HB4 : Aside0 (∀ p, R1 = .ok () p → p = 4) := ⟨fun p e => by
  rw [← hR1] at e
  unfold beginR at e
  by_cases h1 : bs.length < 4
  ·rw [if_pos h1] at e; cases e
  by_cases h2 : bs.take 4 = head
  ·rw [if_neg h1, if_pos h2] at e
   injection e with e1 e2
   exact e2.symm
  ·rw [if_neg h1, if_neg h2] at e; cases e⟩
 have hb : Below w.heap.size w ((((w.alloc (.cells Z6 27)).alloc (.cells #[.int .i64 0] 3)).alloc (.cells #[.int .i64 0] 40)).alloc (.cells #[.slice B bs.length c, .int .i64 0] 93)) := below_alloc (below_alloc (below_alloc (below_alloc (Below.refl _ _) _) _) _) _
 have HV1 : Aside0 (RV w ((((w.alloc (.cells Z6 27)).alloc (.cells #[.int .i64 0] 3)).alloc (.cells #[.int .i64 0] 40)).alloc (.cells #[.slice B bs.length c, .int .i64 0] 93)) ∧ ((((w.alloc (.cells Z6 27)).alloc (.cells #[.int .i64 0] 3)).alloc (.cells #[.int .i64 0] 40)).alloc (.cells #[.slice B bs.length c, .int .i64 0] 93)).heap[w.heap.size]? = some (.cells Z6 27 (0, 0)) ∧ Rr w (w.heap.size + 1 + 1 + 1) B c bs 0 ((((w.alloc (.cells Z6 27)).alloc (.cells #[.int .i64 0] 3)).alloc (.cells #[.int .i64 0] 40)).alloc (.cells #[.slice B bs.length c, .int .i64 0] 93))) := ⟨by
  have g1 := blk_alloc (blk_alloc (blk_alloc (heap_alloc_new w (.cells Z6 27)) (.cells #[.int .i64 0] 3)) (.cells #[.int .i64 0] 40)) (.cells #[.slice B bs.length c, .int .i64 0] 93)
  have g2 := blk_alloc (blk_alloc (heap_alloc_new (w.alloc (.cells Z6 27)) (.cells #[.int .i64 0] 3)) (.cells #[.int .i64 0] 40)) (.cells #[.slice B bs.length c, .int .i64 0] 93)
  have g3 := blk_alloc (heap_alloc_new ((w.alloc (.cells Z6 27)).alloc (.cells #[.int .i64 0] 3)) (.cells #[.int .i64 0] 40)) (.cells #[.slice B bs.length c, .int .i64 0] 93)
  have g4 := heap_alloc_new (((w.alloc (.cells Z6 27)).alloc (.cells #[.int .i64 0] 3)).alloc (.cells #[.int .i64 0] 40)) (.cells #[.slice B bs.length c, .int .i64 0] 93)
  have s1 : (w.alloc (.cells Z6 27)).heap.size = w.heap.size + 1 := by simp
  have s2 : ((w.alloc (.cells Z6 27)).alloc (.cells #[.int .i64 0] 3)).heap.size = w.heap.size + 1 + 1 := by simp
  have s3 : (((w.alloc (.cells Z6 27)).alloc (.cells #[.int .i64 0] 3)).alloc (.cells #[.int .i64 0] 40)).heap.size = w.heap.size + 1 + 1 + 1 := by simp
  rw [s1] at g2
  rw [s2] at g3
  rw [s3] at g4
  exact ⟨⟨hb, ⟨_, g1, rfl⟩, g2, g3⟩, g1, hb, by omega, g4, hC, by omega⟩⟩
 rw [hR]
 clear hT hR hb
 have HC1 : Aside0 (Calls Tryd.prog 56 #[.pointer (some ⟨w.heap.size + 1 + 1 + 1, 0, none⟩)] ((((w.alloc (.cells Z6 27)).alloc (.cells #[.int .i64 0] 3)).alloc (.cells #[.int .i64 0] 40)).alloc (.cells #[.slice B bs.length c, .int .i64 0] 93)) (RPost (fun w' => Kept ((((w.alloc (.cells Z6 27)).alloc (.cells #[.int .i64 0] 3)).alloc (.cells #[.int .i64 0] 40)).alloc (.cells #[.slice B bs.length c, .int .i64 0] 93)) w' (fun k => k = w.heap.size + 1 + 1 + 1) ∧ Below w.heap.size w w') R1 fun _ q w' => RV w w' ∧ w'.heap[w.heap.size]? = some (.cells Z6 27 (0, 0)) ∧ Rr w (w.heap.size + 1 + 1 + 1) B c bs q w')) := ⟨by
  have h1 := rbegin_any w (w.heap.size + 1 + 1 + 1) c B bs _ hbb (by omega) hlc HV1.out.2.2
  rw [hR1] at h1
  refine h1.mono (fun e w' h => ?_)
  cases R1 with
  | bad q c => exact h
  | ok u q =>
   obtain ⟨he, hr, hk⟩ := h
   have hg := blk_kept HV1.out.2.1 hk (by omega)
   exact ⟨he, HV1.out.1.kept hr.bel hk (by omega) (by omega) ⟨_, hg, rfl⟩, hg, hr⟩⟩
 clear hR1
 go_enter_defers Tryd.func22, Tryd.ntmps22
 go_wp2_with (fail)
 refine HC1.out.mono ?_
 cases R1 with
 | bad q code =>
  rintro en w2 ⟨rfl, hk2, hb2⟩
  refine gives_up w w2 q code _ (by simp) (by simp) (by simp) (HV1.out.1.kept hb2 hk2 (by omega) (by omega) ⟨_, blk_kept HV1.out.2.1 hk2 (by omega), rfl⟩) _ ?_
  intro e w' h
  rw [← HR.out]
  exact h
 | ok u p4 =>
 obtain rfl := HB4.out p4 rfl
 rintro en w2 ⟨rfl, hv2, hg2, hr2⟩
 have HV2 := Aside0.mk hv2
 have HZ2 := Aside0.mk (blk_lt hr2.blk)
 have HC2 := Aside0.mk (rall_any w (w.heap.size + 1 + 1 + 1) w.heap.size c 4 B bs w2 hbb (by omega) hr2 hg2 (Nat.le_refl _))
 obtain ⟨R2, hR2⟩ : ∃ R2, graph bs 4 = R2 := ⟨_, rfl⟩
 have HR2 : Aside0 (R2.bind (fun g p1 => (endR bs p1).bind fun _ _ => if okB (whole g) = true then .ok (whole g) 0 else .bad 0 164) = R) := ⟨by rw [← hR2]; exact HR.out⟩
 have HG2 := Aside0.mk hR2
 rw [hR2] at HC2
 clear hv2 hg2 hr2 hR2 HC1 HV1 HR HB4
 go_wp2_with (fail)
 refine HC2.out.mono ?_
 clear HC2
 cases R2 with
 | bad q code =>
  rintro en w3 ⟨rfl, hbd⟩
  refine gives_up w w3 q code _ (by simp) (by simp) (by simp) (HV2.out.kept hbd.bel hbd.kept (fun e => by rcases e with e | e | e; omega; omega; exact e) (fun e => by rcases e with e | e | e; omega; omega; exact e) hbd.blk) _ ?_
  intro e w' h
  rw [← HR2.out]
  exact h
 | ok g p =>
 rintro en w3 ⟨rfl, hr3, hk3, v0, v1, v2, v4, hgot⟩
 have HR3 := Aside0.mk hr3
 have HGT := Aside0.mk hgot
 have HV3 := Aside0.mk (HV2.out.kept hr3.bel hk3 (fun e => by rcases e with e | e <;> omega) (fun e => by rcases e with e | e <;> omega) ⟨_, hgot.blk, rfl⟩)
 have HC3 := Aside0.mk (rend_any w (w.heap.size + 1 + 1 + 1) c p B bs w3 hbb (by omega) hlc hr3)
 obtain ⟨R3, hR3⟩ : ∃ R3, endR bs p = R3 := ⟨_, rfl⟩
 have HR4 : Aside0 (R3.bind (fun _ _ => if okB (whole g) = true then .ok (whole g) 0 else .bad 0 164) = R) := ⟨by rw [← hR3]; exact HR2.out⟩
 rw [hR3] at HC3
 clear hr3 hk3 hgot hR3 HR2 HV2
 go_wp2_with (fail)
 refine HC3.out.mono ?_
 clear HC3
 cases R3 with
 | bad q code =>
  rintro en w4 ⟨rfl, hbd, -⟩
  refine gives_up w w4 q code _ (by simp) (by simp) (by simp) (HV3.out.below hbd) _ ?_
  intro e w' h
  rw [← HR4.out]
  exact h
 | ok u3 p3 =>
 rintro en w4 ⟨rfl, hb4⟩
 have hfit := graph_fits HG2.out
 have hreg := graph_reg HG2.out
 have htame := hfit.tame hbl
 have HRX : Aside0 ((if okB (whole g) = true then .ok (whole g) 0 else .bad 0 164) = R) := ⟨HR4.out⟩
 have hv4 := HV3.out.below hb4
 have hgt := HGT.out
 have q0 := Kd.R_below hgt.r0 hb4
 have q1 := Kd.R_below hgt.r1 hb4
 have q2 := Kd.R_below hgt.r2 hb4
 have q4 := Kd.R_below hgt.r4 hb4
 have hblk := blk_below hgt.blk hb4
 obtain ⟨A0, c0, rfl, l0, C0⟩ := Kd.R_reads q0
 obtain ⟨A1, c1, rfl, l1, C1⟩ := Kd.R_reads q1
 obtain ⟨A2, c2, rfl, l2, C2⟩ := Kd.R_reads q2
 obtain ⟨A4, c4, rfl, l4, C4⟩ := Kd.R_reads q4
 obtain ⟨k, hk⟩ := (registry_ev g (by have := hfit.objs; omega)).rounds
 rw [hreg] at hk
 have HC4 := Aside0.mk (image_registry.calls k A0 c0 g.objs A1 c1 g.slots A2 c2 g.handles none 0 [] A4 c4 g.queue g.next _ w4 C0 l0 C1 l1 C2 l2 (Kd.C_nil _ _) (Nat.le_refl _) C4 l4 hk)
 have g0 : w4.cell? ⟨w.heap.size, 0, none⟩ = some (.slice A0 g.objs.length c0) := (blk_cell hblk 0).trans rfl
 have g1 : w4.cell? ⟨w.heap.size, 1, none⟩ = some (.slice A1 g.slots.length c1) := (blk_cell hblk 1).trans rfl
 have g2 : w4.cell? ⟨w.heap.size, 2, none⟩ = some (.slice A2 g.handles.length c2) := (blk_cell hblk 2).trans rfl
 have g3 : w4.cell? ⟨w.heap.size, 3, none⟩ = some (.slice none 0 0) := (blk_cell hblk 3).trans rfl
 have g4 : w4.cell? ⟨w.heap.size, 4, none⟩ = some (.slice A4 g.queue.length c4) := (blk_cell hblk 4).trans rfl
 have g5 : w4.cell? ⟨w.heap.size, 5, none⟩ = some (.int .u64 g.next) := (blk_cell hblk 5).trans rfl
 have HV4 := Aside0.mk hv4
 have HQ4 := Aside0.mk (And.intro q0 (And.intro q1 (And.intro q2 q4)))
 have HBLK4 := Aside0.mk hblk
 have HTM := Aside0.mk htame
 have HLE := Aside0.mk (show w.heap.size ≤ w2.heap.size by have := HZ2.out; omega)
 have HLL := Aside0.mk (And.intro l0 (And.intro l1 (And.intro l2 l4)))
 have HBX := Aside0.mk (below_step (HV3.out.bel) hb4)
 clear hfit hreg htame hv4 hgt q0 q1 q2 q4 hblk l0 l1 l2 l4 C0 C1 C2 C4 hk HR3 HV3 HGT HG2 HR4 hb4
 go_wp2_with (fail)
 refine HC4.out.mono ?_
 clear HC4
 rintro en w5 ⟨v3, rfl, hv3, hb5⟩
 obtain ⟨A3, c3, rfl, l3, C3⟩ := Kd.R_reads hv3
 have hblk5 := blk_below HBLK4.out hb5
 have HL3 := Aside0.mk l3
 have hg3 : w5.cell? ⟨w.heap.size, 3, none⟩ = some (.slice none 0 0) := (blk_cell hblk5 3).trans rfl
 have hf3 := blk_frozen hblk5 3
 have HW6 : Aside0 ((RV w (w5.setCell ⟨w.heap.size, 3, none⟩ (.slice A3 (finals g.objs).length c3)) ∧ (w5.setCell ⟨w.heap.size, 3, none⟩ (.slice A3 (finals g.objs).length c3)).heap[w.heap.size]? = some (.cells #[.slice A0 g.objs.length c0, .slice A1 g.slots.length c1, .slice A2 g.handles.length c2, .slice A3 (finals g.objs).length c3, .slice A4 g.queue.length c4, .int .u64 g.next] 27 (0, 0))) ∧ Got w (w5.setCell ⟨w.heap.size, 3, none⟩ (.slice A3 (finals g.objs).length c3)) (whole g) (.slice A0 g.objs.length c0) (.slice A1 g.slots.length c1) (.slice A2 g.handles.length c2) (.slice A3 (finals g.objs).length c3) (.slice A4 g.queue.length c4)) := ⟨by
  obtain ⟨q0, q1, q2, q4⟩ := HQ4.out
  have hb6 := blk_put hblk5 3 (.slice A3 (finals g.objs).length c3) rfl
  have hv := HV4.out.below hb5
  refine ⟨⟨⟨below_set hv.bel (Nat.le_refl _), ⟨_, hb6, rfl⟩, blk_far hv.at_ (by show _ ≠ w.heap.size; omega) _, blk_far hv.er (by show _ ≠ w.heap.size; omega) _⟩, hb6⟩, ?_⟩
  exact ⟨Kd.R_set (Kd.R_lower (Kd.R_below q0 hb5) HLE.out) hblk5 (by decide) _ _, Kd.R_set (Kd.R_lower (Kd.R_below q1 hb5) HLE.out) hblk5 (by decide) _ _, Kd.R_set (Kd.R_lower (Kd.R_below q2 hb5) HLE.out) hblk5 (by decide) _ _, Kd.R_set (Kd.R_lower hv3 HV4.out.bel.size) hblk5 (by decide) _ _, Kd.R_set (Kd.R_lower (Kd.R_below q4 hb5) HLE.out) hblk5 (by decide) _ _⟩⟩
 have k0 : w5.cell? ⟨w.heap.size, 0, none⟩ = some (.slice A0 g.objs.length c0) := (blk_cell hblk5 0).trans rfl
 have k1 : w5.cell? ⟨w.heap.size, 1, none⟩ = some (.slice A1 g.slots.length c1) := (blk_cell hblk5 1).trans rfl
 have k2 : w5.cell? ⟨w.heap.size, 2, none⟩ = some (.slice A2 g.handles.length c2) := (blk_cell hblk5 2).trans rfl
 have k4 : w5.cell? ⟨w.heap.size, 4, none⟩ = some (.slice A4 g.queue.length c4) := (blk_cell hblk5 4).trans rfl
 have k5 : w5.cell? ⟨w.heap.size, 5, none⟩ = some (.int .u64 g.next) := (blk_cell hblk5 5).trans rfl
 have HC5 := Aside0.mk (Check_any ⟨A0, A1, A2, A3, A4, c0, c1, c2, c3, c4⟩ (whole g) HTM.out _ (by
  obtain ⟨a1, a2⟩ := HW6.out
  obtain ⟨l0, l1, l2, l4⟩ := HLL.out
  obtain ⟨_, _, e0, _, C0⟩ := Kd.R_reads a2.r0
  obtain ⟨_, _, e1, _, C1⟩ := Kd.R_reads a2.r1
  obtain ⟨_, _, e2, _, C2⟩ := Kd.R_reads a2.r2
  obtain ⟨_, _, e3, _, C3⟩ := Kd.R_reads a2.r3
  obtain ⟨_, _, e4, _, C4⟩ := Kd.R_reads a2.r4
  injection e0 with e0 _ _
  injection e1 with e1 _ _
  injection e2 with e2 _ _
  injection e3 with e3 _ _
  injection e4 with e4 _ _
  subst e0 e1 e2 e3 e4
  exact ⟨C0, C1, C2, C3, C4, l0, l1, l2, HL3.out, l4⟩) (HT.out.below HW6.out.1.1.bel))
 clear hv3 hb5 l3 C3 hblk5 g0 g1 g2 g3 g4 g5 HQ4 HV4 HBLK4 HBX
 go_wp2_with (fail)
 refine HC5.out.mono ?_
 clear HC5 k0 k1 k2 k4 k5 hg3 hf3
 generalize w5.setCell ⟨w.heap.size, 3, none⟩ (.slice A3 (finals g.objs).length c3) = w6 at *
 rintro en w7 ⟨rfl, hb7⟩
 have HV7 := Aside0.mk (HW6.out.1.1.below hb7)
 have hblk := blk_below HW6.out.1.2 hb7
 have HGOT : Aside0 (Got w w7 (whole g) (.slice A0 g.objs.length c0) (.slice A1 g.slots.length c1) (.slice A2 g.handles.length c2) (.slice A3 (finals g.objs).length c3) (.slice A4 g.queue.length c4)) := ⟨by
  have h := HW6.out.2
  exact ⟨Kd.R_below h.r0 hb7, Kd.R_below h.r1 hb7, Kd.R_below h.r2 hb7, Kd.R_below h.r3 hb7, Kd.R_below h.r4 hb7⟩⟩
 have k0 : w7.cell? ⟨w.heap.size, 0, none⟩ = some (.slice A0 g.objs.length c0) := (blk_cell hblk 0).trans rfl
 have k1 : w7.cell? ⟨w.heap.size, 1, none⟩ = some (.slice A1 g.slots.length c1) := (blk_cell hblk 1).trans rfl
 have k2 : w7.cell? ⟨w.heap.size, 2, none⟩ = some (.slice A2 g.handles.length c2) := (blk_cell hblk 2).trans rfl
 have k3 : w7.cell? ⟨w.heap.size, 3, none⟩ = some (.slice A3 (finals g.objs).length c3) := (blk_cell hblk 3).trans rfl
 have k4 : w7.cell? ⟨w.heap.size, 4, none⟩ = some (.slice A4 g.queue.length c4) := (blk_cell hblk 4).trans rfl
 have k5 : w7.cell? ⟨w.heap.size, 5, none⟩ = some (.int .u64 g.next) := (blk_cell hblk 5).trans rfl
 have ka : w7.cell? ⟨w.heap.size + 1, 0, none⟩ = some (.int .i64 0) := (blk_cell HV7.out.at_ 0).trans rfl
 have ke : w7.cell? ⟨w.heap.size + 1 + 1, 0, none⟩ = some (.int .i64 0) := (blk_cell HV7.out.er 0).trans rfl
 have f0 := blk_frozen hblk 0
 have f1 := blk_frozen hblk 1
 have f2 := blk_frozen hblk 2
 have f3 := blk_frozen hblk 3
 have f4 := blk_frozen hblk 4
 have f5 := blk_frozen hblk 5
 have fa := blk_frozen HV7.out.at_ 0
 have fe := blk_frozen HV7.out.er 0
 have i0 := setCell_id k0
 have i1 := setCell_id k1
 have i2 := setCell_id k2
 have i3 := setCell_id k3
 have i4 := setCell_id k4
 have i5 := setCell_id k5
 have ia := setCell_id ka
 have ie := setCell_id ke
 clear hb7 hblk HW6
 by_cases hok : okB (whole g) = true
 ·have HRY : Aside0 (Res.ok (whole g) 0 = R) := ⟨by rw [← HRX.out, if_pos hok]⟩
  rw [if_pos hok]
  clear hok
  go_wp2_with (fail)
  clear i0 i1 i2 i3 i4 i5 ia ie f0 f1 f2 f3 f4 f5 fa fe
  refine leaves_cons (f := 55) (args := #[.pointer (some ⟨w.heap.size, 0, none⟩), .pointer (some ⟨w.heap.size + 1, 0, none⟩), .pointer (some ⟨w.heap.size + 1 + 1, 0, none⟩)]) (by simp) (by simp [go_sem]) ?_
  refine (catch_idle ⟨w.heap.size, 0, none⟩ ⟨w.heap.size + 1, 0, none⟩ ⟨w.heap.size + 1 + 1, 0, none⟩ w7).mono ?_
  rintro e u' w' ⟨rfl, rfl, rfl⟩
  show Leaves Tryd.prog Tryd.f22 _ _ [] .returning w'
  refine ⟨.tuple #[.agg #[.slice A0 g.objs.length c0, .slice A1 g.slots.length c1, .slice A2 g.handles.length c2, .slice A3 (finals g.objs).length c3, .slice A4 g.queue.length c4, .int .u64 g.next], .int .i64 0, .int .i64 0], ?_, ?_⟩
  ·simp [results, Tryd.results22, go_sem, k0, k1, k2, k3, k4, k5, ka, ke]
  ·rw [← HRY.out]
   exact ⟨HV7.out.bel, _, _, _, _, _, rfl, HGOT.out⟩
 ·have HRY : Aside0 (Res.bad 0 164 = R) := ⟨by rw [← HRX.out, if_neg hok]⟩
  rw [if_neg hok]
  clear hok i0 i1 i2 i3 i4 i5 ia ie
  go_wp2_with (fail)
  refine gives_up w w7 0 164 _ (by simp) (by simp) (by simp) HV7.out _ ?_
  intro e w' h
  rw [← HRY.out]
  exact h
end Go.Proofs.YtihjjkoddphmiaaDoor.img

namespace Go.Proofs.YtihjjkoddphmiaaDoor.img
open Go.RowKit Go.Proofs.YtihjjkoddphmiaaDoorW.PrintWords Go.Proofs.YtihjjkoddphmiaaDoorW.PrintLast Go.Proofs.YtihjjkoddphmiaaDoorW.PrintMore Go.Proofs.YtihjjkoddphmiaaDoor.PImageRound
set_option linter.unusedVariables false
set_option linter.unusedSimpArgs false

section
variable {σ α : Type}
end
theorem fnv_lt (l : List Int) : fnv l < 4294967296 := fnvFrom_lt l _ (by decide)

end Go.Proofs.YtihjjkoddphmiaaDoor.img

namespace Go.Proofs.YtihjjkoddphmiaaDoor.img
open Go.RowKit Go.Proofs.YtihjjkoddphmiaaDoorW.PrintWords Go.Proofs.YtihjjkoddphmiaaDoorW.PrintLast Go.Proofs.YtihjjkoddphmiaaDoorW.PrintMore Go.Proofs.YtihjjkoddphmiaaDoor.PImageRound
set_option linter.unusedVariables false
set_option linter.unusedSimpArgs false

end Go.Proofs.YtihjjkoddphmiaaDoor.img

namespace Go.Proofs.YtihjjkoddphmiaaDoor.img
open Go.RowKit Go.Proofs.YtihjjkoddphmiaaDoorW.PrintWords Go.Proofs.YtihjjkoddphmiaaDoorW.PrintLast Go.Proofs.YtihjjkoddphmiaaDoorW.PrintMore Go.Proofs.YtihjjkoddphmiaaDoor.PImageRound
set_option linter.unusedVariables false
set_option linter.unusedSimpArgs false

theorem same_ev (l : List Int) (r : List Int) (hl : Bytes l) (hr : Bytes r) : middenlaw16_same.f l r = some (decide (l = r)) := by
 unfold middenlaw16_same.f
 congr 1
 by_cases h : l = r
 ·subst h; simp
 ·rw [decide_eq_false h]
  rw [beq_eq_false_iff_ne]
  intro e
  exact h (str_inj hl hr e)

set_option maxHeartbeats 8000000 in
set_option maxRecDepth 100000 in
/-- The law's num. -/
theorem num_is (a : Int) (w : World) : Calls Tryd.prog 12 #[.int .i64 a] w fun e w' => e = .returned (.int .i64 a) ∧ w = w' := by
 go_enter Tryd.func12, Tryd.ntmps12
 go_wp2
 go_ret
 exact ⟨by first | rfl | (simp; done), by first | rfl | (simp; done)⟩

set_option maxRecDepth 100000 in
/-- A row's first bytes. -/
theorem cut_is {A : Option Addr} {c : Nat} {l : List Int} (j : Nat) (hj : j ≤ l.length) (hc : l.length ≤ c) (W : World) : (Instr.slice 47 (.slice A l.length c) none (some (.int .i64 (j : Int))) none).run Tryd.prog W = .ok (.slice A j c) W := by
 obtain ⟨i, hi, hs⟩ := Option.map_eq_some_iff.1 info5
 have hsz : i.size = 1 := by injection hs with h1 h2; injection h2
 have h := (print_take_int (P := Tryd.prog) (k := .u8) 47 5 Tryd.underlying47 hi hsz A c l (j : Int) (by omega) (by omega) hc).1 W
 rw [List.length_take] at h
 have e : min (j : Int).toNat l.length = j := by omega
 rw [e] at h
 exact h
/-- Two rows of bytes are compared. -/
theorem same_any {A B : Option Addr} {c d : Nat} {l r : List Int} {w : World} (hl : Bytes l) (hr : Bytes r) (h1 : Kd.C (Kd.int .u8) w A l.length l) (h2 : l.length ≤ c) (h3 : Kd.C (Kd.int .u8) w B r.length r) (h4 : r.length ≤ d) :
  Calls Tryd.prog 19 #[.slice A l.length c, .slice B r.length d] w fun e w' => e = .returned (.bool (decide (l = r))) ∧ Below w.heap.size w w' := by
 refine (middenlaw16_same.calls A c l B d r _ w h1 h2 h3 h4 (same_ev l r hl hr)).mono ?_
 rintro e w' ⟨rfl, hd⟩
 obtain ⟨m, rfl⟩ := hd.out
 exact ⟨rfl, pw_below_drewN (Below.refl _ _) m⟩

end Go.Proofs.YtihjjkoddphmiaaDoor.img
