/-
  The walk of middenref16.finals by hand.
-/
import Derived.Test.YtihjjkoddphmiaaGreatDoorNSmG
namespace Go.Proofs.YtihjjkoddphmiaaGreatDoor.img
open Go.RowKit Go.Proofs.YtihjjkoddphmiaaGreatDoorW.PrintWords Go.Proofs.YtihjjkoddphmiaaGreatDoorW.PrintLast Go.Proofs.YtihjjkoddphmiaaGreatDoorW.PrintMore Go.Proofs.YtihjjkoddphmiaaGreatDoor.PImageApart
set_option linter.unusedVariables false
set_option linter.unusedSimpArgs false

theorem kinfo3 : (Tryz.prog.info? 3).map (fun i => (i.zero, i.size, i.bytes)) = some (some (.int .i64 0), 1, 8) := by kernel_rfl
/-- A world with the graph's block and a row T of one's own. -/
structure KS (w0 : World) (C : Array Value) (v : Value) (T : List Int) (w : World) : Prop where
 bel : Below w0.heap.size w0 w
 row : (Kd.int .i64).R 3 w w0.heap.size (fun _ => True) v T
 blk : w.heap[w0.heap.size]? = some (.cells C 44 (0, 0))
theorem KS.push {P : Program} {ops : Array Oper} {rest : List Oper} {o : Oper} {a : Act} {Q : Exit → Act → World → Prop} {w0 W : World} {C : Array Value} {v : Value} {T : List Int} (hgd : o.guard = none) (s x : Operand)
  (ho : o.op = .call { callee := .builtin .append, args := #[s, x], argTypes := #[25, 25] })
  (ht : P.underlying 25 = some (.slice 3)) (hinfo : (P.info? 3).map (fun i => (i.zero, i.size, i.bytes)) = some (some (.int .i64 0), 1, 8))
  (p : Int) (hs : a.eval s = v) (hx : a.eval x = .slice (some ⟨W.heap.size, 0, none⟩) 1 1)
  (H : KS w0 C v T W) (hl : T.length ≤ 1000000000000)
  (h : ∀ v1 w1, KS w0 C v1 (T ++ [p]) w1 → wpList P ops Q rest (a.put o.dst v1) w1) :
  wpList P ops Q (o :: rest) a (W.alloc (.cells #[.int .i64 p] 3)) :=
 Kd.R_append (Kd.int .i64) (w0 := w0) w0.heap.size hgd s x 25 3 (.int .i64 0) 8 ho ht hinfo rfl (by decide) (by omega) v T p [.int .i64 p] (fun _ => True) (fun _ => False) hs hx rfl (fun _ hk => hk.elim) (fun _ _ => trivial) H.row H.bel H.bel.size (by omega)
  (fun v1 w1 h1 h2 h3 _ => h v1 w1 ⟨h2, h1, blk_grown H.blk h3 (Kd.R_ne H.row H.blk (by decide))⟩)
set_option maxHeartbeats 8000000 in
set_option maxRecDepth 100000 in
theorem finals_hand (L : Lay) (g : Gr) (hl : g.objs.length ≤ 1000000) (w : World) (hC : k66.C w L.A0 g.objs.length g.objs) :
  Calls Tryz.prog 20 #[.agg (gcells L g).toArray] w fun e w' => ∃ v, e = .returned v ∧ (Kd.int .i64).R 3 w' w.heap.size (fun _ => True) v (finals g.objs) ∧ Below w.heap.size w w' := by
 obtain ⟨A0, A1, A2, A3, A4, k0, k1, k2, k3, k4⟩ := L
 obtain ⟨objs, slots, handles, registry, queue, next⟩ := g
 simp only at hl hC ⊢
 have HC := Aside0.mk hC
 obtain ⟨F, hF⟩ : ∃ F, finals objs = F := ⟨_, rfl⟩
 have HF : Aside0 ([] ++ finalsFrom 0 (objs.drop 0) = F) := ⟨hF⟩
 rw [hF]
 obtain ⟨W, hW⟩ : ∃ W, W = w.alloc (.cells #[.slice A0 objs.length k0, .slice A1 slots.length k1, .slice A2 handles.length k2, .slice A3 registry.length k3, .slice A4 queue.length k4, .int .u64 next] 44) := ⟨_, rfl⟩
 have HW := Aside0.mk hW
 have H : Aside0 (KS w #[.slice A0 objs.length k0, .slice A1 slots.length k1, .slice A2 handles.length k2, .slice A3 registry.length k3, .slice A4 queue.length k4, .int .u64 next] (.slice none 0 0) [] W) := ⟨⟨by rw [hW]; exact below_alloc (Below.refl _ _) _, Kd.R_nil _ _ _ _ _, by rw [hW]; exact heap_alloc_new w _⟩⟩
 clear hC hW hF
 go_enter Tryz.func20, Tryz.ntmps20
 go_upto_region 1 with (fail)
 rw [← HW.out]
 go_wp2_with (fail)
 go_loopw [3, 4] (fun v i wr => ∃ (t : Nat) (T : List Int), i = .int .i64 t ∧ t ≤ objs.length ∧ Aside0 (T.length ≤ t) ∧ Aside0 (T ++ finalsFrom t (objs.drop t) = F) ∧ Aside0 (KS w #[.slice A0 objs.length k0, .slice A1 slots.length k1, .slice A2 handles.length k2, .slice A3 registry.length k3, .slice A4 queue.length k4, .int .u64 next] v T wr)) (fun _ i _ => objs.length - (intOf i).toNat)
 case atStart => exact ⟨0, [], rfl, Nat.zero_le _, ⟨Nat.le_refl _⟩, HF, H⟩
 case round =>
  clear H HF
  obtain ⟨t, T, rfl, ht, HT, HF, H⟩ := hrel
  obtain ⟨c0, -⟩ := S6.of H.out.blk
  by_cases hlt : t < objs.length
  ·have p1 : (t : Int) < (objs.length : Int) := by omega
   obtain ⟨ad, A5, k5, A6, k6, rfl, -, o1, -⟩ := obj_at HC.out hlt
   replace o1 := pw_cell_below H.out.bel o1
   rw [drop_get objs t z66 hlt, finalsFrom] at HF
   generalize (objs.getD t z66).f1 = kd at *
   obtain ⟨Av, cv, rfl⟩ := Kd.R_slice H.out.row
   by_cases hk : kd = 4
   ·subst hk
    have HF2 : Aside0 ((T ++ [(t : Int) + 1]) ++ finalsFrom (t + 1) (objs.drop (t + 1)) = F) := ⟨by have := HF.out; rw [if_pos rfl] at this; simpa using this⟩
    have HT2 : Aside0 ((T ++ [(t : Int) + 1]).length ≤ t + 1) := ⟨by rw [List.length_append]; have := HT.out; simp; omega⟩
    have hTl : T.length ≤ 1000000000000 := by have := HT.out; omega
    clear HF HT
    go_wp2_with (refine KS.push rfl (.tmp 19) (.tmp 22) rfl Tryz.underlying25 kinfo3 ((t : Int) + 1) rfl (by first | (go_simp; done) | (go_simp; rfl)) H.out hTl ?_; intro v1 w3 h; have H2 := Aside0.mk h; clear h)
    go_roundw
    case rel => exact ⟨t + 1, _, by go_num, by omega, HT2, HF2, H2⟩
    case measure => simp [intOf]; omega
   ·have HF2 : Aside0 (T ++ finalsFrom (t + 1) (objs.drop (t + 1)) = F) := ⟨by have := HF.out; rwa [if_neg hk] at this⟩
    have HT2 : Aside0 (T.length ≤ t + 1) := ⟨by have := HT.out; omega⟩
    clear HF HT
    go_wp2_with (fail)
    go_roundw
    case rel => exact ⟨t + 1, T, by go_num, by omega, HT2, HF2, H⟩
    case measure => simp [intOf]; omega
  ·have p1 : ¬ (t : Int) < (objs.length : Int) := by omega
   obtain ⟨rfl⟩ : Aside0 (T = F) := ⟨by have := HF.out; rw [List.drop_eq_nil_of_le (by omega)] at this; simpa [finalsFrom] using this⟩
   go_wp2_with (fail)
   go_ret
   exact ⟨_, rfl, H.out.row, H.out.bel⟩
end Go.Proofs.YtihjjkoddphmiaaGreatDoor.img
