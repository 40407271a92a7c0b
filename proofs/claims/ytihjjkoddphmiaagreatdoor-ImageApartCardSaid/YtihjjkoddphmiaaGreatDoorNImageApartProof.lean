/-
  middenlaw16.ImageApart returns true for every script, and changes nothing that was there.
-/
import Derived.Test.YtihjjkoddphmiaaGreatDoorNLawA1
import Derived.Test.YtihjjkoddphmiaaGreatDoorCards
import Derived.Test.YtihjjkoddphmiaaGreatDoorTie
import Derived.Test.YtihjjkoddphmiaaGreatDoorNIm3
import Derived.WalkKit
import Derived.ProofKit
import Derived.OpenShut
import Derived.ChangeOld
import Derived.Below
import Derived.SizedLaws
import Derived.Deep.DeepHandedRow
import Derived.Lib.LaidTab
namespace Go.Proofs.YtihjjkoddphmiaaGreatDoor.bk
open Go.RowKit Go.Proofs.YtihjjkoddphmiaaGreatDoorW.PrintWords Go.Proofs.YtihjjkoddphmiaaGreatDoorW.PrintLast Go.Proofs.YtihjjkoddphmiaaGreatDoorW.PrintMore Go.Proofs.YtihjjkoddphmiaaGreatDoor.PImageApart Go.Proofs.YtihjjkoddphmiaaGreatDoor.img
set_option linter.unusedVariables false
set_option linter.unusedSimpArgs false
theorem built39 : Tryz.prog.built 39 [] = some ((List.range 121).map bk0).toArray := by kernel_rfl
theorem zero39 : ∃ C : Array Value, C.toList = (List.range 121).map bk0 ∧ Tryz.prog.built 39 [] = some C := by
 obtain ⟨l, hl⟩ : ∃ l, l = (List.range 121).map bk0 := ⟨_, rfl⟩
 exact ⟨l.toArray, (show l.toArray.toList = _ from hl), built39.trans (congrArg (fun l => some l.toArray) hl.symm)⟩
set_option maxRecDepth 100000 in
theorem wp_zero {C : Array Value} {o : Oper} {a : Act} {w : World} {K : Act → World → Prop} {Q : Exit → Act → World → Prop} (hC : Tryz.prog.built 39 [] = some C) (ho : o.op = .build 39 #[]) (h : K (a.put o.dst (.agg C)) w) : o.wp Tryz.prog a w K Q := by
 have hc : Tryz.prog.built 39 (Array.map (fun (x : Nat × Operand) => (x.1, a.eval x.2)) #[]).toList = some C := by rw [Array.map_empty]; exact hC
 unfold Oper.wp execOp
 simp only [ho, Sem.run_bind, run_build w 39 _ C hc, Result.andThen_ok]
 exact h
set_option maxHeartbeats 16000000 in
set_option maxRecDepth 100000 in
theorem apart_any (A : Option Addr) (n c : Nat) (w : World) (hT : Tabs w) (hn : n ≤ 140737488355328) (hA : ∀ i, i < n → ∃ ad q, A = some ad ∧ AskAt w (ad.add (i * 8)) q) :
  Calls Tryz.prog 3 #[.slice A n c] w fun e w' => e = .returned (.bool true) ∧ Below w.heap.size w w' := by
 obtain ⟨C39, hC, hb39⟩ := zero39
 have HT := Aside0.mk hT
 have HA := Aside0.mk hA
 have HO := Aside0.mk (show Outr w w.heap.size 0 (w.alloc (.cells C39 39)) from ⟨below_alloc (Below.refl _ _) _, _, _, _, book_new w (mo w.heap.size) (fun k hk => hk) C39 hC⟩)
 have HB39 := Aside0.mk hb39
 clear hC hb39 hT hA
 go_enter Tryz.func3, Tryz.ntmps3
 go_upto_region 2 with (fail)
 refine wp_zero HB39.out rfl ?_
 go_upto_region 2 with (fail)
 refine img.wp_world (p := fun wx => Aside0 (Outr w w.heap.size 0 wx)) HO ?_
 clear HO
 rintro w1 HO
 go_wp2_with (fail)
 go_loopw [4] (fun u4 wr => ∃ i : Nat, i ≤ 8 ∧ u4 = .int .i64 i ∧ Aside0 (Outr w w.heap.size (i * (3 * KG)) wr)) (fun u4 _ => 8 - (intOf u4).toNat)
 case atStart => exact ⟨0, by omega, rfl, HO⟩
 case round =>
  clear HO
  obtain ⟨i, hi, rfl, HO⟩ := hrel
  obtain ⟨wa, hwa⟩ : ∃ wa, wa = wr := ⟨_, rfl⟩
  subst hwa
  by_cases hlt : i < n
  ·by_cases h8 : i < 8
   ·have p1 : (i : Int) < (n : Int) := by omega
    have p2 : (i : Int) < 8 := by omega
    obtain ⟨ad, q, rfl, hq⟩ := HA.out i hlt
    obtain ⟨rd, B, cb, bs, ⟨A0, A1, A2, A3, A4, k0, k1, k2, k3, k4⟩, g⟩ := q
    have HQ := Aside0.mk hq
    have HB := Aside0.mk HO.out.bel
    have q0 := pw_cell_below HB.out hq.c0
    have q1 := pw_cell_below HB.out (hq.cs 1 (.slice B bs.length cb) (by decide) rfl)
    have q2 := pw_cell_below HB.out (hq.cs 2 (.slice A0 g.objs.length k0) (by decide) rfl)
    have q3 := pw_cell_below HB.out (hq.cs 3 (.slice A1 g.slots.length k1) (by decide) rfl)
    have q4 := pw_cell_below HB.out (hq.cs 4 (.slice A2 g.handles.length k2) (by decide) rfl)
    have q5 := pw_cell_below HB.out (hq.cs 5 (.slice A3 g.registry.length k3) (by decide) rfl)
    have q6 := pw_cell_below HB.out (hq.cs 6 (.slice A4 g.queue.length k4) (by decide) rfl)
    have q7 := pw_cell_below HB.out (hq.cs 7 (.int .u64 g.next) (by decide) rfl)
    obtain ⟨W1, hW1⟩ : ∃ W1, W1 = wa.alloc (.cells #[.bool rd, .slice B bs.length cb, .slice A0 g.objs.length k0, .slice A1 g.slots.length k1, .slice A2 g.handles.length k2, .slice A3 g.registry.length k3, .slice A4 g.queue.length k4, .int .u64 g.next] 46) := ⟨_, rfl⟩
    have HW1 := Aside0.mk hW1
    have HBX : Aside0 (W1.heap[wa.heap.size]? = some (.cells #[.bool rd, .slice B bs.length cb, .slice A0 g.objs.length k0, .slice A1 g.slots.length k1, .slice A2 g.handles.length k2, .slice A3 g.registry.length k3, .slice A4 g.queue.length k4, .int .u64 g.next] 46 (0, 0)) ∧ Below wa.heap.size wa W1) := ⟨by rw [hW1]; exact ⟨heap_alloc_new _ _, below_alloc (Below.refl _ _) _⟩⟩
    clear hW1 hq
    by_cases hbig : 8192 < bs.length
    ·have p3 : (8192 : Int) < (bs.length : Int) := by omega
     go_wp2_with (fail)
     rw [← HW1.out]
     go_ret
     exact ⟨rfl, HB.out.trans (HBX.out.2.mono HB.out.size)⟩
    have p3 : ¬ (8192 : Int) < (bs.length : Int) := by omega
    obtain ⟨r, hsm, hsmall⟩ := small_any (L := ⟨A0, A1, A2, A3, A4, k0, k1, k2, k3, k4⟩) HQ.out.came.roomy
    have HSR := Aside0.mk hsm
    have HSM := Aside0.mk (hsmall W1 ((HQ.out.came.rd.below HB.out).below HBX.out.2))
    clear hsm hsmall
    go_wp2_with (fail)
    rw [← HW1.out]
    refine HSM.out.mono ?_
    clear HSM HW1 q0 q1 q2 q3 q4 q5 q6 q7
    rintro en w2 ⟨rfl, hb2⟩
    have HB2 := Aside0.mk (HBX.out.2.trans (hb2.mono HBX.out.2.size))
    have HK2 := Aside0.mk (blk_below HBX.out.1 hb2)
    clear hb2 HBX
    cases r with
    | false =>
     go_wp2_with (fail)
     go_ret
     exact ⟨rfl, HB.out.trans (HB2.out.mono HB.out.size)⟩
    | true =>
    have HTO := Aside0.mk (HSR.out rfl)
    clear HSR
    have q0 := (blk_cell HK2.out 0).trans (show _ = some (Value.bool rd) from rfl)
    have q1 := (blk_cell HK2.out 1).trans (show _ = some (Value.slice B bs.length cb) from rfl)
    have q2 := (blk_cell HK2.out 2).trans (show _ = some (Value.slice A0 g.objs.length k0) from rfl)
    have q3 := (blk_cell HK2.out 3).trans (show _ = some (Value.slice A1 g.slots.length k1) from rfl)
    have q4 := (blk_cell HK2.out 4).trans (show _ = some (Value.slice A2 g.handles.length k2) from rfl)
    have q5 := (blk_cell HK2.out 5).trans (show _ = some (Value.slice A3 g.registry.length k3) from rfl)
    have q6 := (blk_cell HK2.out 6).trans (show _ = some (Value.slice A4 g.queue.length k4) from rfl)
    have q7 := (blk_cell HK2.out 7).trans (show _ = some (Value.int .u64 g.next) from rfl)
    cases rd with
    | true =>
     have HRR := Aside0.mk (RefRead_any B cb bs w2 HQ.out.bytes (by omega) HQ.out.lb (Kd.C_below (Kd.C_below HQ.out.row HB.out) HB2.out))
     have HSZ := Aside0.mk (told_szs bs (by omega))
     have HTM := Aside0.mk (told_tame bs (by omega))
     obtain ⟨R, hR⟩ : ∃ R, readR bs = R := ⟨_, rfl⟩
     have HR := Aside0.mk hR
     rw [hR] at HRR HSZ HTM
     clear hR
     go_wp2_with (fail)
     refine HRR.out.mono ?_
     clear HRR q0 q1 q2 q3 q4 q5 q6 q7
     intro en w3 hp
     obtain ⟨hb3, C0, C1, C2, C3, C4, c0, c1, c2, c3, c4, rfl, hgot⟩ := hp.plain
     obtain ⟨gw, hg⟩ : ∃ gw, toldG R = gw := ⟨_, rfl⟩
     obtain ⟨nw, hq⟩ : ∃ nw, toldN R = nw := ⟨_, rfl⟩
     obtain ⟨ew, hk⟩ : ∃ ew, toldE R = ew := ⟨_, rfl⟩
     rw [hg, hq, hk]
     rw [hg] at hgot HSZ HTM
     have HTW := Aside0.mk (And.intro hg (And.intro hq hk))
     obtain ⟨W4, hW4⟩ : ∃ W4, W4 = w3.alloc (.cells #[.slice C0 gw.objs.length c0, .slice C1 gw.slots.length c1, .slice C2 gw.handles.length c2, .slice C3 gw.registry.length c3, .slice C4 gw.queue.length c4, .int .u64 gw.next] 44) := ⟨_, rfl⟩
     have hb4 : Below w3.heap.size w3 W4 := by rw [hW4]; exact below_alloc (Below.refl _ _) _
     have HKW : Aside0 (W4.heap[w3.heap.size]? = some (.cells #[.slice C0 gw.objs.length c0, .slice C1 gw.slots.length c1, .slice C2 gw.handles.length c2, .slice C3 gw.registry.length c3, .slice C4 gw.queue.length c4, .int .u64 gw.next] 44 (0, 0))) := ⟨by rw [hW4]; exact heap_alloc_new _ _⟩
     have HB4 : Aside0 (Below wa.heap.size wa W4 ∧ wa.heap.size ≤ w2.heap.size ∧ wa.heap.size ≤ w3.heap.size ∧ w3.heap.size < W4.heap.size) := ⟨(HB2.out.trans (hb3.mono HB2.out.size)).trans (hb4.mono (Nat.le_trans HB2.out.size hb3.size)), HB2.out.size, Nat.le_trans HB2.out.size hb3.size, blk_lt HKW.out⟩
     have HGW := Aside0.mk (Got.keep hgot (Kept.of_below hb4 (fun _ => False)) (fun _ h => h.elim))
     have HKA := Aside0.mk (blk_below (blk_below HK2.out hb3) hb4)
     have HI := Aside0.mk (Inn.start HO.out HB4.out.1)
     have HW4 := Aside0.mk hW4
     clear hg hq hk hb3 hb4 hgot hp HK2 HB2 hW4
     go_wp2_with (fail)
     rw [← HW4.out]
     clear HW4
     go_loopw [9] (fun u9 wx => ∃ j : Nat, j ≤ 3 ∧ u9 = .int .i64 j ∧ Aside0 (Inn w.heap.size wa.heap.size W4 w.heap.size (i * (3 * KG) + j * KG) wx)) (fun u9 _ => 3 - (intOf u9).toNat)
     case atStart => exact ⟨0, by omega, rfl, by rw [Nat.zero_mul, Nat.add_zero]; exact HI⟩
     case round =>
      clear HI
      obtain ⟨j, hj, rfl, HI⟩ := hrel
      obtain ⟨wx, hwx⟩ : ∃ wx, wx = wr := ⟨_, rfl⟩
      subst hwx
      by_cases hj3 : j < 3
      ·have p4 : (j : Int) < 3 := by omega
       have q1 := (blk_cell ((HI.out.blk (Nat.le_refl _) (by have := HB4.out; omega)).trans HKA.out) 1).trans (show _ = some (Value.slice B bs.length cb) from rfl)
       have HBW : Aside0 (Below w.heap.size w wx) := ⟨(HB.out.trans (HB4.out.1.mono HB.out.size)).trans (HI.out.bel (Nat.le_trans HB.out.size HB4.out.1.size))⟩
       have HCX := Aside0.mk (Kd.C_below HQ.out.row HBW.out)
       have hlen : bs.length ≤ 8192 := by omega
       go_wp2_with (first | (at_builtin; refine Kd.R_append_row (w0 := wx) (Value.int .u8) 0 (h1 := fun _ => rfl) wx.heap.size rfl (.const (.slice none 0 0)) (.tmp 60) 40 5 (.int .u8 0) 1 rfl Tryz.underlying40 img.info5 rfl (by decide) (.slice none 0 0) [] bs B bs.length cb (fun _ => True) rfl (by first | (go_simp; done) | (go_simp; rfl)) (fun _ _ => trivial) (Kd.R_nil _ _ _ _ _) HCX.out (Below.refl _ _) (Nat.le_refl _) (by first | omega | (simp only [List.length_nil]; omega)) ?_; intro v9 wl ho9 hb9 hg9 hat9; have ho9 : (Kd.int .u8).R 5 wl wx.heap.size (fun _ => True) v9 bs := ho9; obtain ⟨Al, cl, rfl, hll, hCl⟩ := Kd.R_reads ho9; have HRL := Aside0.mk ho9; have HBL := Aside0.mk hb9; have HCL := Aside0.mk (And.intro hll hCl); clear ho9 hb9 hg9 hat9 hll hCl))
       have HRI := Aside0.mk (Read_any Al cl bs wl HQ.out.bytes (by omega) HCL.out.1 HCL.out.2 (HT.out.below (HBW.out.trans (HBL.out.mono HBW.out.size))))
       rw [HR.out] at HRI
       clear q1
       go_wp2_with (fail)
       refine HRI.out.mono ?_
       clear HRI HCX HCL
       intro en w5 hp
       obtain ⟨hb5, E0, E1, E2, E3, E4, e0, e1, e2, e3, e4, rfl, hgot⟩ := hp.plain
       rw [HTW.out.1, HTW.out.2.1, HTW.out.2.2]
       rw [HTW.out.1] at hgot
       obtain ⟨W6, hW6⟩ : ∃ W6, W6 = w5.alloc (.cells #[.slice E0 gw.objs.length e0, .slice E1 gw.slots.length e1, .slice E2 gw.handles.length e2, .slice E3 gw.registry.length e3, .slice E4 gw.queue.length e4, .int .u64 gw.next] 44) := ⟨_, rfl⟩
       have hb6 : Below w5.heap.size w5 W6 := by rw [hW6]; exact below_alloc (Below.refl _ _) _
       have HKG : Aside0 (W6.heap[w5.heap.size]? = some (.cells #[.slice E0 gw.objs.length e0, .slice E1 gw.slots.length e1, .slice E2 gw.handles.length e2, .slice E3 gw.registry.length e3, .slice E4 gw.queue.length e4, .int .u64 gw.next] 44 (0, 0))) := ⟨by rw [hW6]; exact heap_alloc_new _ _⟩
       have HLL : Aside0 (wl.heap.size ≤ w5.heap.size) := ⟨hb5.size⟩
       have HGG := Aside0.mk (GotA.keep hgot (Kept.of_below hb6 (fun _ => False)) (fun _ h => h.elim))
       have HST := Aside0.mk (lent_sto HRL.out HBL.out (hb5.trans (hb6.mono hb5.size)))
       have HW6 := Aside0.mk hW6
       clear hb5 hb6 hgot hp hW6
       go_wp2_with (fail)
       rw [← HW6.out]
       clear HW6
       go_loopw [14] (fun u14 wy => ∃ t : Nat, t ≤ bs.length ∧ u14 = .int .i64 t ∧ Aside0 (Sto wx wl W6 Al bs.length wy)) (fun u14 _ => bs.length - (intOf u14).toNat)
       case atStart => exact ⟨0, by omega, rfl, HST⟩
       case round =>
        clear HST
        obtain ⟨t, ht, rfl, HST⟩ := hrel
        by_cases htl : t < bs.length
        ·have p5 : (t : Int) < (bs.length : Int) := by omega
         cases Al with
         | none => have := HST.out.none_ rfl; omega
         | some al =>
         obtain ⟨kl, cur, e, -, -, hbk, hcs, hcu⟩ := HST.out.cell al rfl
         subst e
         obtain ⟨x, hx⟩ := hcu t htl
         have m1 := (blk_cell hbk t).trans hx
         have m2 := blk_frozen hbk t
         have HP := Aside0.mk (HST.out.put (j := t) 77)
         clear hbk hcs hcu hx HST
         go_wp2_with (fail)
         go_roundw
         case rel => exact ⟨t + 1, by omega, by go_num, HP⟩
         case measure => simp [intOf]; omega
        ·have p5 : ¬ (t : Int) < (bs.length : Int) := by omega
         have HG6 := Aside0.mk (GotA.keep HGG.out HST.out.kept HST.out.lt)
         have HKG6 : Aside0 (wr.heap[w5.heap.size]? = some (.cells #[.slice E0 gw.objs.length e0, .slice E1 gw.slots.length e1, .slice E2 gw.handles.length e2, .slice E3 gw.registry.length e3, .slice E4 gw.queue.length e4, .int .u64 gw.next] 44 (0, 0))) := ⟨(HST.out.gr.block _ (blk_lt HKG.out) (fun e => by have := HST.out.lt _ e.symm; have := HLL.out; omega)).trans HKG.out⟩
         have HKW6 : Aside0 (wr.heap[w3.heap.size]? = some (.cells #[.slice C0 gw.objs.length c0, .slice C1 gw.slots.length c1, .slice C2 gw.handles.length c2, .slice C3 gw.registry.length c3, .slice C4 gw.queue.length c4, .int .u64 gw.next] 44 (0, 0))) := ⟨blk_below ((HI.out.blk HB4.out.2.2.1 HB4.out.2.2.2).trans HKW.out) HST.out.bel⟩
         have HRW := Aside0.mk (Rd.below (Got.rd (Got.keep HGW.out HI.out.fr.kept (fun k hk hh => by have := HB4.out; rcases hk with hk | hk <;> omega))) HST.out.bel)
         have HSG := Aside0.mk (sameGr_any ⟨E0, E1, E2, E3, E4, e0, e1, e2, e3, e4⟩ ⟨C0, C1, C2, C3, C4, c0, c1, c2, c3, c4⟩ gw HTM.out wr (Got.rd HG6.out.got) HRW.out)
         have a0 := (blk_cell HKG6.out 0).trans (show _ = some (Value.slice E0 gw.objs.length e0) from rfl)
         have a1 := (blk_cell HKG6.out 1).trans (show _ = some (Value.slice E1 gw.slots.length e1) from rfl)
         have a2 := (blk_cell HKG6.out 2).trans (show _ = some (Value.slice E2 gw.handles.length e2) from rfl)
         have a3 := (blk_cell HKG6.out 3).trans (show _ = some (Value.slice E3 gw.registry.length e3) from rfl)
         have a4 := (blk_cell HKG6.out 4).trans (show _ = some (Value.slice E4 gw.queue.length e4) from rfl)
         have a5 := (blk_cell HKG6.out 5).trans (show _ = some (Value.int .u64 gw.next) from rfl)
         have b0 := (blk_cell HKW6.out 0).trans (show _ = some (Value.slice C0 gw.objs.length c0) from rfl)
         have b1 := (blk_cell HKW6.out 1).trans (show _ = some (Value.slice C1 gw.slots.length c1) from rfl)
         have b2 := (blk_cell HKW6.out 2).trans (show _ = some (Value.slice C2 gw.handles.length c2) from rfl)
         have b3 := (blk_cell HKW6.out 3).trans (show _ = some (Value.slice C3 gw.registry.length c3) from rfl)
         have b4 := (blk_cell HKW6.out 4).trans (show _ = some (Value.slice C4 gw.queue.length c4) from rfl)
         have b5 := (blk_cell HKW6.out 5).trans (show _ = some (Value.int .u64 gw.next) from rfl)
         clear HGG HKG HRW
         go_wp2_with (go_at_call 7; refine (num_is _ _).mono ?_; rintro en w' ⟨rfl, rfl⟩)
         refine HSG.out.mono ?_
         clear HSG a0 a1 a2 a3 a4 a5 b0 b1 b2 b3 b4 b5 HKW6
         rintro en w7 ⟨rfl, hb7⟩
         have HG7 := Aside0.mk (GotA.keep HG6.out (Kept.of_below hb7 (fun _ => False)) (fun _ h => h.elim))
         have HK7 := Aside0.mk (blk_below HKG6.out hb7)
         have HBG := Aside0.mk (Inn.graph HI.out (HST.out.bel.trans (hb7.mono HST.out.bel.size)) HBL.out.size E0 E1 E2 E3 E4 gw.objs.length gw.slots.length gw.handles.length gw.registry.length gw.queue.length e0 e1 e2 e3 e4 gw.next HG7.out HSZ.out (by unfold KG; omega))
         have a0 := (blk_cell HK7.out 0).trans (show _ = some (Value.slice E0 gw.objs.length e0) from rfl)
         have a1 := (blk_cell HK7.out 1).trans (show _ = some (Value.slice E1 gw.slots.length e1) from rfl)
         have a2 := (blk_cell HK7.out 2).trans (show _ = some (Value.slice E2 gw.handles.length e2) from rfl)
         have a3 := (blk_cell HK7.out 3).trans (show _ = some (Value.slice E3 gw.registry.length e3) from rfl)
         have a4 := (blk_cell HK7.out 4).trans (show _ = some (Value.slice E4 gw.queue.length e4) from rfl)
         have a5 := (blk_cell HK7.out 5).trans (show _ = some (Value.int .u64 gw.next) from rfl)
         clear hb7 HG6 HKG6 HST
         go_wp2_with (fail)
         refine (HBG.out _).mono ?_
         clear HBG a0 a1 a2 a3 a4 a5 HG7 HK7
         rintro en w8 ⟨rfl, hi8⟩
         have HI8 := Aside0.mk hi8
         clear hi8 HI
         go_wp2_with (fail)
         go_roundw
         case rel => exact ⟨j + 1, by omega, by go_num, ⟨by rw [show i * (3 * KG) + (j + 1) * KG = i * (3 * KG) + j * KG + KG by rw [Nat.succ_mul j, Nat.add_assoc]]; exact HI8.out⟩⟩
         case measure => simp [intOf]; omega
      ·have p4 : ¬ (j : Int) < 3 := by omega
       obtain rfl : j = 3 := by omega
       go_wp2_with (fail)
       refine HI.out.hold.mono ?_
       rintro en w9 ⟨rfl, hi9⟩
       have HI9 := Aside0.mk hi9
       clear hi9 HI
       go_wp2_with (fail)
       go_roundw
       case rel => exact ⟨i + 1, by omega, by go_num, ⟨by rw [show (i + 1) * (3 * KG) = i * (3 * KG) + 3 * KG by rw [Nat.succ_mul i]]; exact HI9.out.out (HB.out.trans (HB4.out.1.mono HB.out.size))⟩⟩
       case measure => simp [intOf]; omega
    | false =>
     have HNR := Aside0.mk (total_near HTO.out)
     obtain ⟨xs, hxs⟩ : ∃ xs, outB g = xs := ⟨_, rfl⟩
     obtain ⟨ev, hev⟩ : ∃ ev, outC g = ev := ⟨_, rfl⟩
     have HRR := Aside0.mk (RefWrite_R ⟨A0, A1, A2, A3, A4, k0, k1, k2, k3, k4⟩ g HNR.out HQ.out.came.words (by have := root_total g; have := HTO.out; omega) w2 ((HQ.out.came.rd.below HB.out).below HB2.out))
     have HXB : Aside0 (Bytes xs ∧ xs.length ≤ 1073741824) := ⟨by
      rw [← hxs]
      refine ⟨outB_bytes g, ?_⟩
      unfold outB
      split
      ·next h => have := (good_of HNR.out HQ.out.came.words h).size HTO.out; omega
      ·simp⟩
     rw [hxs, hev] at HRR
     have HXV := Aside0.mk (And.intro hxs hev)
     clear hxs hev
     go_wp2_with (fail)
     refine HRR.out.mono ?_
     clear HRR q0 q1 q2 q3 q4 q5 q6 q7
     rintro en w3 ⟨v, rfl, hv, hb3⟩
     obtain ⟨Cw, cw, rfl, hcw, -⟩ := Kd.R_reads hv
     have HV := Aside0.mk hv
     have HB4 : Aside0 (Below wa.heap.size wa w3 ∧ wa.heap.size ≤ w2.heap.size ∧ wa.heap.size < w3.heap.size) := ⟨HB2.out.trans (hb3.mono HB2.out.size), HB2.out.size, by have := blk_lt HK2.out; have := hb3.size; omega⟩
     have HKA := Aside0.mk (blk_below HK2.out hb3)
     have HI := Aside0.mk (Inn.start HO.out HB4.out.1)
     clear hb3 hv HK2 HB2
     go_wp2_with (fail)
     go_loopw [17] (fun u17 wx => ∃ j : Nat, j ≤ 3 ∧ u17 = .int .i64 j ∧ Aside0 (Inn w.heap.size wa.heap.size w3 w.heap.size (i * (3 * KG) + j * KG) wx)) (fun u17 _ => 3 - (intOf u17).toNat)
     case atStart => exact ⟨0, by omega, rfl, by rw [Nat.zero_mul, Nat.add_zero]; exact HI⟩
     case round =>
      clear HI
      obtain ⟨j, hj, rfl, HI⟩ := hrel
      obtain ⟨wx, hwx⟩ : ∃ wx, wx = wr := ⟨_, rfl⟩
      subst hwx
      by_cases hj3 : j < 3
      ·have p4 : (j : Int) < 3 := by omega
       have HKX := Aside0.mk ((HI.out.blk (Nat.le_refl _) HB4.out.2.2).trans HKA.out)
       have q2 := (blk_cell HKX.out 2).trans (show _ = some (Value.slice A0 g.objs.length k0) from rfl)
       have q3 := (blk_cell HKX.out 3).trans (show _ = some (Value.slice A1 g.slots.length k1) from rfl)
       have q4 := (blk_cell HKX.out 4).trans (show _ = some (Value.slice A2 g.handles.length k2) from rfl)
       have q5 := (blk_cell HKX.out 5).trans (show _ = some (Value.slice A3 g.registry.length k3) from rfl)
       have q6 := (blk_cell HKX.out 6).trans (show _ = some (Value.slice A4 g.queue.length k4) from rfl)
       have q7 := (blk_cell HKX.out 7).trans (show _ = some (Value.int .u64 g.next) from rfl)
       have HBW : Aside0 (Below w.heap.size w wx) := ⟨(HB.out.trans (HB4.out.1.mono HB.out.size)).trans (HI.out.bel (Nat.le_trans HB.out.size HB4.out.1.size))⟩
       have HWR := Aside0.mk (Write_R ⟨A0, A1, A2, A3, A4, k0, k1, k2, k3, k4⟩ g HNR.out HQ.out.came.words wx (HQ.out.came.fair wx HBW.out) (HT.out.below HBW.out))
       rw [HXV.out.1, HXV.out.2] at HWR
       have HRW := Aside0.mk (row_keep HV.out HI.out.fr.kept (fun k hk hh => by have := HB4.out; rcases hk with hk | hk <;> omega))
       go_wp2_with (fail)
       refine HWR.out.mono ?_
       clear HWR q2 q3 q4 q5 q6 q7 HKX
       rintro en w5 ⟨v5, rfl, hv5, hb5⟩
       obtain ⟨D, d, rfl, hd, hC5⟩ := Kd.R_reads hv5
       have HV5 := Aside0.mk hv5
       have HB5 := Aside0.mk hb5
       have hRW5 := row_keep HRW.out (Kept.of_below hb5 (fun _ => False)) (fun _ h => h.elim)
       obtain ⟨_, _, eW, hcw', hCW⟩ := Kd.R_reads hRW5
       injection eW with eW1 _ eW2
       subst eW1
       have HSM := Aside0.mk (same_self HXB.out.1 hC5 hd hCW hcw)
       clear hv5 hb5 hRW5 hcw' hCW hC5 hd eW2 HRW
       go_wp2_with (go_at_call 7; refine (num_is _ _).mono ?_; rintro en w' ⟨rfl, rfl⟩)
       refine HSM.out.mono ?_
       clear HSM
       rintro en w7 ⟨rfl, hb7⟩
       have HBG := Aside0.mk (Inn.bytes HI.out (HB5.out.trans (hb7.mono HB5.out.size)) (Nat.le_refl _) (row_keep HV5.out (Kept.of_below hb7 (fun _ => False)) (fun _ h => h.elim)) HXB.out.2 (by unfold KG; omega))
       clear hb7
       go_wp2_with (fail)
       refine (HBG.out _).mono ?_
       clear HBG HV5
       rintro en w8 ⟨rfl, hi8⟩
       have HI8 := Aside0.mk hi8
       clear hi8 HI
       go_wp2_with (fail)
       go_roundw
       case rel => exact ⟨j + 1, by omega, by go_num, ⟨by rw [show i * (3 * KG) + (j + 1) * KG = i * (3 * KG) + j * KG + KG by rw [Nat.succ_mul j, Nat.add_assoc]]; exact HI8.out⟩⟩
       case measure => simp [intOf]; omega
      ·have p4 : ¬ (j : Int) < 3 := by omega
       obtain rfl : j = 3 := by omega
       go_wp2_with (fail)
       refine HI.out.hold.mono ?_
       rintro en w9 ⟨rfl, hi9⟩
       have HI9 := Aside0.mk hi9
       clear hi9 HI
       go_wp2_with (fail)
       go_roundw
       case rel => exact ⟨i + 1, by omega, by go_num, ⟨by rw [show (i + 1) * (3 * KG) = i * (3 * KG) + 3 * KG by rw [Nat.succ_mul i]]; exact HI9.out.out (HB.out.trans (HB4.out.1.mono HB.out.size))⟩⟩
       case measure => simp [intOf]; omega
   ·have p1 : (i : Int) < (n : Int) := by omega
    have p2 : ¬ (i : Int) < 8 := by omega
    go_wp2_with (fail)
    go_ret
    exact ⟨rfl, HO.out.bel⟩
  ·have p1 : ¬ (i : Int) < (n : Int) := by omega
   go_wp2_with (fail)
   go_ret
   exact ⟨rfl, HO.out.bel⟩
end Go.Proofs.YtihjjkoddphmiaaGreatDoor.bk
namespace Go.Proofs.YtihjjkoddphmiaaGreatDoor.img
open Go.ChangeShapes Go.WideShapes Go.ChangeAt Go.RowKit
set_option linter.unusedVariables false

theorem own : ownKnob Tryz.prog.godebug = none := by kernel_rfl
theorem laidOut : laidOutB Tryz.prog = true := by kernel_rfl
theorem gW : Tryz.prog.globalNamed "midden/cell.widths" = some 0 := by kernel_rfl
theorem gN : Tryz.prog.globalNamed "midden/cell.needs" = some 1 := by kernel_rfl
theorem laid_tail {P : Program} {W : World} {x : String × DataW Unit} {rest : List (String × DataW Unit)} (h : laidMet P (x :: rest) W) : laidMet P rest W := by
 obtain ⟨ps, ⟨g', t', cs, fuel, p, q, hg', ht', hvar, hd, hr, rfl⟩, hn, hk⟩ := h
 exact ⟨q, hr, (List.nodup_append.1 hn).2.1, fun b off hm => hk b off (List.mem_append_right _ hm)⟩
abbrev tables2 : List (String × DataW Unit) := [("midden/cell.widths", Rows.laid_midden_cell_widths), ("midden/cell.needs", Rows.laid_midden_cell_needs)]
abbrev tables : List (String × DataW Unit) := ("math/bits.deBruijn32tab", Rows.laid_math_bits_deBruijn32tab) :: ("math/bits.deBruijn64tab", Rows.laid_math_bits_deBruijn64tab) :: ("internal/strconv.uint64pow10", Rows.laid_internal_strconv_uint64pow10) :: tables2
theorem tabs_of_laid {W : World} (h0 : laidMet Tryz.prog tables W) : Tabs W := by
 have h : laidMet Tryz.prog tables2 W := laid_tail (laid_tail (laid_tail h0))
 have h1 : Lib.TabIs Tryz.prog W "midden/cell.widths" .i64 [3, 1, 4, 8, 12, 16] :=
  Lib.tabIs_of_head (g := 0) (t := 159) (e := 3) (n := 6) (rest := [("midden/cell.needs", Rows.laid_midden_cell_needs)]) gW (by kernel_rfl) (by kernel_rfl) (by kernel_rfl) (by kernel_rfl) (by kernel_rfl) h
 have h2 : Lib.TabIs Tryz.prog W "midden/cell.needs" .i64 [-1, 0, 1, 2, 0] :=
  Lib.tabIs_of_head (g := 1) (t := 161) (e := 3) (n := 5) (rest := []) gN (by kernel_rfl) (by kernel_rfl) (by kernel_rfl) (by kernel_rfl) (by kernel_rfl) (laid_tail h)
 refine ⟨fun j x hx => ?_, fun j x hx => ?_⟩
 ·obtain ⟨hj, e⟩ := List.getElem?_eq_some_iff.1 hx
  have := h1.cell gW j hj
  rw [List.getD_eq_getElem?_getD, hx] at this
  exact this
 ·obtain ⟨hj, e⟩ := List.getElem?_eq_some_iff.1 hx
  have := h2.cell gN j hj
  rw [List.getD_eq_getElem?_getD, hx] at this
  exact this

/-- A block with other cells. -/
def relay (cs : Array Value) : Obj → Obj
 | .cells _ t frozen => .cells cs t frozen
 | o => o
/-- A world for the witnesses: the settled one, both tables (blocks 0 and 1) holding what their initialisers lay. -/
noncomputable def laidWorld (os : Os) : World :=
 { World.holding Tryz.prog os ⟨#[], #[], []⟩ with heap := (((((World.holding Tryz.prog os ⟨#[], #[], []⟩).heap.modify 0 (relay #[.int .i64 3, .int .i64 1, .int .i64 4, .int .i64 8, .int .i64 12, .int .i64 16])).modify 1 (relay #[.int .i64 (-1), .int .i64 0, .int .i64 1, .int .i64 2, .int .i64 0])).modify 2 (relay #[.int .u64 1, .int .u64 10, .int .u64 100, .int .u64 1000, .int .u64 10000, .int .u64 100000, .int .u64 1000000, .int .u64 10000000, .int .u64 100000000, .int .u64 1000000000, .int .u64 10000000000, .int .u64 100000000000, .int .u64 1000000000000, .int .u64 10000000000000, .int .u64 100000000000000, .int .u64 1000000000000000, .int .u64 10000000000000000, .int .u64 100000000000000000, .int .u64 1000000000000000000, .int .u64 10000000000000000000])).modify 3 (relay #[.int .u8 0, .int .u8 1, .int .u8 28, .int .u8 2, .int .u8 29, .int .u8 14, .int .u8 24, .int .u8 3, .int .u8 30, .int .u8 22, .int .u8 20, .int .u8 15, .int .u8 25, .int .u8 17, .int .u8 4, .int .u8 8, .int .u8 31, .int .u8 27, .int .u8 13, .int .u8 23, .int .u8 21, .int .u8 19, .int .u8 16, .int .u8 7, .int .u8 26, .int .u8 12, .int .u8 18, .int .u8 6, .int .u8 11, .int .u8 5, .int .u8 10, .int .u8 9])).modify 4 (relay #[.int .u8 0, .int .u8 1, .int .u8 56, .int .u8 2, .int .u8 57, .int .u8 49, .int .u8 28, .int .u8 3, .int .u8 61, .int .u8 58, .int .u8 42, .int .u8 50, .int .u8 38, .int .u8 29, .int .u8 17, .int .u8 4, .int .u8 62, .int .u8 47, .int .u8 59, .int .u8 36, .int .u8 45, .int .u8 43, .int .u8 51, .int .u8 22, .int .u8 53, .int .u8 39, .int .u8 33, .int .u8 30, .int .u8 24, .int .u8 18, .int .u8 12, .int .u8 5, .int .u8 63, .int .u8 55, .int .u8 48, .int .u8 27, .int .u8 60, .int .u8 41, .int .u8 37, .int .u8 16, .int .u8 46, .int .u8 35, .int .u8 44, .int .u8 21, .int .u8 52, .int .u8 32, .int .u8 23, .int .u8 11, .int .u8 54, .int .u8 26, .int .u8 40, .int .u8 15, .int .u8 34, .int .u8 20, .int .u8 31, .int .u8 10, .int .u8 25, .int .u8 14, .int .u8 19, .int .u8 9, .int .u8 13, .int .u8 8, .int .u8 7, .int .u8 6]) }
theorem laid_met (os : Os) (args : Array Value) : laidMet Tryz.prog tables ((laidWorld os).forCall (fun _ _ => 0) ⟨#[], args, []⟩).memory :=
 laidMet_of_run' 8 (by kernel_rfl) (by kernel_rfl)

end Go.Proofs.YtihjjkoddphmiaaGreatDoor.img
namespace Go.Proofs.YtihjjkoddphmiaaGreatDoor.imageApart
open Go.ChangeShapes Go.WideShapes Go.ChangeAt Go.RowKit Go.Proofs.YtihjjkoddphmiaaGreatDoor.img Go.Proofs.YtihjjkoddphmiaaGreatDoor.bk Go.Proofs.YtihjjkoddphmiaaGreatDoorW.PrintWords
set_option linter.unusedVariables false

theorem acells_len (q : Ask1) : (acells q).length = 8 := rfl
theorem acells_one (q : Ask1) : ∀ u ∈ acells q, u.oneCell' = true := by
  intro u hu
  simp only [acells, gcells, List.mem_cons, List.not_mem_nil, or_false] at hu
  rcases hu with h | h | h | h | h | h | h | h <;> rw [h] <;> rfl
/-- What is asked for, as the elements of a row. -/
def askK : Kd Ask1 where
  sz := 8
  E := []
  K := fun _ q cs => cs = acells q
  M := fun _ _ _ q cs => cs = acells q
  K_len := fun h => by rw [h]; rfl
  K_one := fun h => by rw [h]; exact acells_one _
  K_below := fun _ h => h
  K_of_M := fun h => h
  M_mono := fun _ h => h
  M_bound := fun h => h
  M_move := fun _ h => h
  M_lower := fun _ h => h
instance : Inhabited Ask1 := ⟨⟨false, none, 0, [], ⟨none, none, none, none, none, 0, 0, 0, 0, 0⟩, gNo⟩⟩
/-- What is known of such an element. -/
structure FA (W : World) (cs : List Value) (q : Ask1) : Prop where
  cs : cs = acells q
  bytes : Bytes q.bs
  lb : q.bs.length ≤ q.cb
  lm : q.bs.length ≤ 140737488355328
  row : Kd.C (Kd.int .u8) W q.B q.bs.length q.bs
  came : Came W q.L q.g
section
variable {H : Type} {enc : TypeId × Value → H} {W : World}
theorem c4 : Tryz.prog.cellsOf 4 = 1 := by kernel_rfl
theorem c40 : Tryz.prog.cellsOf 40 = 1 := by kernel_rfl
theorem c44 : Tryz.prog.cellsOf 44 = 6 := by kernel_rfl
theorem c46 : Tryz.prog.cellsOf 46 = 8 := by kernel_rfl
theorem eight {β : Type} {l : List β} (h : l.length = 8) : ∃ a b c d e f g i, l = [a, b, c, d, e, f, g, i] := by
  match l, h with
  | [a, b, c, d, e, f, g, i], _ => exact ⟨a, b, c, d, e, f, g, i, rfl⟩
theorem three {β : Type} {l : List β} (h : l.length = 3) : ∃ a b c, l = [a, b, c] := by
  match l, h with
  | [a, b, c], _ => exact ⟨a, b, c, rfl⟩
theorem opens_bytes (q : TypeId) : Opens enc W (Kd.slice q (Kd.int .u8)) (FS W (Kd.int .u8) (FI .u8)) 40 :=
  opens_slice (opens_int Tryz.underlying5) Tryz.underlying40 (by kernel_rfl) (by decide) (of_decide_eq_true (by kernel_rfl))
set_option maxRecDepth 100000 in
theorem opens_ask : Opens enc W askK (FA W) 46 := by
  intro fuel cs dd pl h hnf hwt
  obtain ⟨xs, n, rfl, e, hlen, hxl, hf⟩ := DataW.trod_struct Tryz.underlying46 h
  obtain ⟨rfl, rfl⟩ := Prod.mk.inj e
  rw [c46] at hlen
  obtain ⟨a0, a1, a2, a3, a4, a5, a6, a7, rfl⟩ := eight hlen
  obtain ⟨y0, y1, y2, rfl⟩ := three (show xs.length = 3 from hxl)
  have h0 : DataW.trod enc Tryz.prog W 0 (fun _ => true) true n 4 (([a0, a1, a2, a3, a4, a5, a6, a7].drop 0).take (Tryz.prog.cellsOf 4)) = some y0 := hf 0 _ rfl
  have h1 : DataW.trod enc Tryz.prog W 0 (fun _ => true) true n 40 (([a0, a1, a2, a3, a4, a5, a6, a7].drop 1).take (Tryz.prog.cellsOf 40)) = some y1 := hf 1 _ rfl
  have h2 : DataW.trod enc Tryz.prog W 0 (fun _ => true) true n 44 (([a0, a1, a2, a3, a4, a5, a6, a7].drop 2).take (Tryz.prog.cellsOf 44)) = some y2 := hf 2 _ rfl
  simp only [c4, c40, c44, List.drop, List.take] at h0 h1 h2
  have hwt : ∀ k ∈ DataW.weightsEach Tryz.prog [4, 40, 44] [y0.1, y1.1, y2.1], k ≤ reachBytes := by
    intro k hk
    refine hwt k ?_
    simp only [DataW.weights, Tryz.underlying46]
    exact hk
  have hm : ∀ y ∈ [y0, y1, y2], W.noneFrozen y.2 := fun y hy b off ho => hnf b off (List.mem_flatMap.2 ⟨y, hy, ho⟩)
  obtain ⟨rd, e0, -⟩ := DataW.trod_bool Tryz.underlying4 h0
  obtain ⟨bs, -, B, cb, e1, l1, C1, R1⟩ := opens_bytes (enc := enc) (W := W) 5 _ _ _ _ h1 (hm _ (by simp)) (fun k hk => hwt k (DataW.weights_mem_each (j := 1) rfl rfl k hk))
  obtain ⟨L, g, e2, hcame⟩ := opens_graph _ _ _ _ h2 (hm _ (by simp)) (fun k hk => hwt k (DataW.weights_mem_each (j := 2) rfl rfl k hk))
  injection e0 with e0 _
  injection e1 with e1 _
  subst e0 e1
  have e3 : [Value.bool rd, .slice B bs.length cb, a2, a3, a4, a5, a6, a7] = acells ⟨rd, B, cb, bs, L, g⟩ := by
    show _ = Value.bool rd :: .slice B bs.length cb :: gcells L g
    rw [← e2]
  refine ⟨⟨rd, B, cb, bs, L, g⟩, e3, e3, fun x hx => ?_, l1, R1.1, C1, hcame⟩
  obtain ⟨i, hi, rfl⟩ := List.getElem_of_mem hx
  obtain ⟨_, _, _, _, _, _, hwf⟩ := R1.2 i _ (List.getElem?_eq_getElem hi)
  have e1 : IntKind.u8.min = 0 := by decide
  have e2 : IntKind.u8.max = 255 := by decide
  have hwf : (Lit.int .u8 (bs[i]'hi)).wf = true := hwf
  generalize (bs[i]'hi) = v at hwf ⊢
  simp [Lit.wf] at hwf
  omega
theorem opens_asks (q : TypeId) : Opens enc W (Kd.slice q askK) (FS W askK (FA W)) 22 :=
  opens_slice (q := q) opens_ask Tryz.underlying22 (by kernel_rfl) (show 1 ≤ 8 by decide) (of_decide_eq_true (by kernel_rfl))
end
theorem asks_at {W : World} {A : Option Addr} {xs : List Ask1} (h : Row W askK (FA W) A xs) : ∀ i, i < xs.length → ∃ ad q, A = some ad ∧ AskAt W (ad.add (i * 8)) q := fun i hi => by
  obtain ⟨ad, cs, e, -, hc, -, hF⟩ := h.2 i _ (List.getElem?_eq_getElem hi)
  have hs : askK.sz = 8 := rfl
  rw [hs] at hc
  rw [hF.cs] at hc
  refine ⟨ad, xs[i], e, hc 0 _ rfl, fun j u hj hu => ?_, hF.bytes, hF.lb, by have := hF.lm; omega, hF.row, hF.came⟩
  have := hc j u hu
  rwa [add_off ad (i * 8) j hj] at this

set_option maxRecDepth 100000 in
theorem contract (H : Type) (enc : TypeId × Value → H) (W : World) (base : Nat) (args : Array Value) (ds gs : List (DataW H)) (before : List MemPlace)
    (hval : ∀ (j : Nat) t v, Tryz.f3.params[j]? = some t → args[j]? = some v → Value.okWide Tryz.prog W .any base t v)
    (hW : DataW.Whole enc Tryz.prog Tryz.f3.params.toList Rows.imageApartSpec.vars false W args.toList ds gs before) (hsz0 : (DataW.weightsEach Tryz.prog (Tryz.f3.params.toList ++ Rows.imageApartSpec.plain.varTypes Tryz.prog) (ds ++ gs)).all (· ≤ reachBytes) = true) (hL : laidMetH Tryz.prog Rows.imageApartRow.laid W) :
    Calls Tryz.prog 3 args W fun e W' => ∃ v, e = .returned v ∧ Rows.imageApartSpec.post enc Tryz.prog Tryz.f3 false true false false W args v W' := by
  have hT : Tabs W := tabs_of_laid hL
  have hW' := hW
  obtain ⟨p, q, hA0, hV, rfl, hfz, hnd⟩ := hW
  have hA : DataW.TrodAll enc Tryz.prog W 0 (fun _ => true) true Tryz.f3.params.toList args.toList ds p := hA0
  have hsz := hsz0
  rw [Tryz.params3] at hA hval hsz
  obtain ⟨v0, vs0, d0, ds0, p0, q0, hargs, rfl, rfl, h0, r0⟩ := trodAll_cons hA
  obtain ⟨rfl, rfl, rfl⟩ := trodAll_nil r0
  obtain rfl : args = #[v0] := by cases args; simp_all
  obtain ⟨rfl, rfl⟩ := trodVars_none hV
  obtain ⟨a0, len0, cap0, rfl⟩ := okWide_slice Tryz.underlying22 (hval 0 22 v0 rfl rfl)
  have k0 := h0
  have lt0 : ∀ x ∈ p0, x.block < W.heap.size := by obtain ⟨m, hm⟩ := k0; exact DataW.trod_lt m _ _ _ hm
  obtain ⟨fuel, hf⟩ := h0
  obtain ⟨xs, -, A, c, e, -, -, hrow⟩ := opens_asks (enc := enc) (W := W) 46 fuel _ _ _ hf (fun b off hm => hfz b off (by simpa using hm)) (fun n hn => by
    have := List.all_eq_true.1 hsz n (DataW.weights_mem_each (j := 0) (t := 22) rfl rfl n hn)
    simpa using this)
  simp [Value.cells] at e
  obtain ⟨rfl, rfl, rfl⟩ := e
  clear hA0 hf
  refine (apart_any a0 xs.length cap0 W hT hrow.1 (asks_at hrow)).mono fun e W' ⟨he, bel⟩ => ?_
  · subst he
    exact ⟨_, rfl, _, _, _, [], _, [], hW', trodAll_mk1 (shut_bool Tryz.underlying4 _), (trodAll_cons_mk (Below.trod laidOut (by kernel_rfl) (of_decide_eq_true (by kernel_rfl)) k0 bel lt0) trodAll_mk0), rfl, bel.frame _, fun h => by cases h⟩

theorem reads (os : Os) {H : Type} (enc : TypeId × Value → H) : ∃ places, DataW.whole enc Tryz.prog ((laidWorld os).forCall (fun _ _ => 0) ⟨#[], #[.slice none 0 0], []⟩).memory Tryz.f3.params.toList Rows.imageApartSpec.vars false #[Value.slice none 0 0].toList 8 = some ([.nil], [], places) :=
  ⟨[], by kernel_rfl⟩

set_option maxRecDepth 100000 in
theorem lifted (os : Os) (started : os.Started) (H : Type) (enc : TypeId × Value → H) (F : Stop.Interp) :
    ReturnsInHanded {} Tryz.checked os 3 .any ((OpenSpec.ofChange Rows.imageApartSpec).preRow enc Tryz.prog Tryz.f3 Rows.imageApartRow.domain false Rows.imageApartRow.laid) (((OpenSpec.ofChange Rows.imageApartSpec).at F).post enc Tryz.prog Tryz.f3 false true false false) := by
  obtain ⟨places, hx⟩ := reads os enc
  refine returnsInHanded_of_row (C := Tryz.checked) (s := OpenSpec.ofChange Rows.imageApartSpec) own started (by kernel_rfl) Tryz.func3
    (witness_row_at (enc := enc) (C := Tryz.checked) false (laidWorld os) #[.slice none 0 0] rfl (by kernel_rfl) (by kernel_rfl) (by kernel_rfl)
      (OpenSpec.preRow_of_cond 8 hx (by kernel_rfl) (fun k hk => by cases hk) (by kernel_rfl) (laid_met os _))) ?_
  intro W base args ds gs before hval hW _ _ hsz hL _ _
  exact contract H enc W base args ds gs before hval hW hsz hL

theorem said : Rows.ImageApartSaid :=
  OpenClaim.holds_of_cond 3 Tryz.f3 rfl rfl rfl rfl rfl rfl rfl ⟨rfl, rfl, rfl, rfl, rfl⟩ rfl rfl rfl rfl rfl (by kernel_rfl) Tryz.func3 (by kernel_rfl)
    (of_decide_eq_true (by kernel_rfl)) (by unfold Func.isWrapper; first | (rw [if_pos (by decide +kernel)]; kernel_rfl) | (rw [if_neg (by decide +kernel)]; exact ⟨rfl, rfl⟩))
    (fun os started H enc _ F => by rw [OpenClaim.pre_eq_preRow]; exact lifted os started H enc F)

theorem plain (f : FuncId) (fn : Func) (hf : Tryz.pinned.checked.prog.funcNamed "midden/middenlaw16.ImageApart" = some f) (hfn : Tryz.pinned.checked.prog.funcs[f]? = some fn) :
    true = Tryz.pinned.checked.prog.looks [] ∧ ∀ (j : Nat) t, fn.params[j]? = some t → Tryz.pinned.checked.prog.wantsStandIn t = false := by
  obtain rfl : f = 3 := Option.some.inj ((show Tryz.prog.funcNamed "midden/middenlaw16.ImageApart" = some 3 by kernel_rfl).symm.trans hf) |>.symm
  obtain rfl : fn = Tryz.f3 := (Option.some.inj (Tryz.func3.symm.trans hfn)).symm
  refine ⟨by kernel_rfl, fun j t ht => ?_⟩
  rw [Tryz.params3] at ht
  obtain rfl : t = 22 := by simpa using Array.mem_of_getElem? ht
  exact (show Tryz.prog.wantsStandIn 22 = false by kernel_rfl)

/-- The card. -/
theorem proved : Rows.ImageApartCardSaid :=
  Claim7.holds_tied_plain_at .later [] _ _ _ _ said (fun _ h => by cases h) (by kernel_rfl) (fun _ h => by cases h) imageApart_row_tie rfl ⟨rfl, rfl⟩ (by kernel_rfl) rfl plain (by kernel_rfl)
#print axioms proved
end Go.Proofs.YtihjjkoddphmiaaGreatDoor.imageApart
