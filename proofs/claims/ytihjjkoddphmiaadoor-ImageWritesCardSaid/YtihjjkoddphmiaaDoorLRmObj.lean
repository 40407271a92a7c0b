/-
  The walk of the room's Objects.
-/
import Derived.Test.YtihjjkoddphmiaaDoorLRmIL
import Derived.Deep.RegionHeld3
namespace Go.Proofs.YtihjjkoddphmiaaDoor.img
open Go.RowKit Go.Proofs.YtihjjkoddphmiaaDoorW.PrintWords Go.Proofs.YtihjjkoddphmiaaDoorW.PrintLast Go.Proofs.YtihjjkoddphmiaaDoorW.PrintMore Go.Proofs.YtihjjkoddphmiaaDoor.PImageRound
set_option linter.unusedVariables false
set_option linter.unusedSimpArgs false

def EO : Ec S62 := fun w ρ o us => ∃ v3 v4, us = [.int .u64 o.f0, .int .i64 o.f1, .int .i64 o.f2, v3, v4] ∧ LI .i64 3 w ρ v3 o.f3 ∧ LI .u64 25 w ρ v4 o.f4
theorem EO.stay : StayE EO := by
  rintro w w' ρ ρ' x us h ⟨v3, v4, e, hp, hq⟩
  exact ⟨v3, v4, e, LI.stay _ _ _ _ _ _ _ _ h hp, LI.stay _ _ _ _ _ _ _ _ h hq⟩
def QO : Ec Nat := fun _ _ j us => us = markO j
theorem QO.stay : StayQ QO := fun _ _ _ _ _ _ _ h => h
theorem fl7 : ((7, 22, MObjs) : Nat × Nat × Mk) ∈ flds := .tail _ (.tail _ (.tail _ (.tail _ (.tail _ (.head _)))))
theorem info62 : (Tryd.prog.info? 62).map (fun i => (i.zero, i.size, i.bytes)) = some (some (.agg #[.int .u64 0, .int .i64 0, .int .i64 0, .slice none 0 0, .slice none 0 0]), 5, 72) := by kernel_rfl
theorem info22 : (Tryd.prog.info? 22).map (fun i => (i.zero, i.size, i.bytes)) = some (some (.slice none 0 0), 1, 24) := by kernel_rfl
/-- The row has grown by an element, some memory having been made. -/
theorem Cq.push3 {α : Type} {E : Ec α} {Q : Ec Nat} {w wr w1 : World} {ρ ρr : Nat → Role} {base r e sz K : Nat} {xs : List α} {x : α} {v v1 : Value} {C : Array Value} {vals ms us : List Value} (h : Cq E Q w ρ base r e sz xs 0 v wr ρr C K vals ms) (hP : StayE E) (hg : wr.grownBy w1 v.ownBlock) (ho : w1.ownsRow w.heap.size e sz v1 (xs.length + 0 + 1) ((vals ++ ms) ++ us)) (hat : v1.ownBlock = v.ownBlock ∨ ∃ b, v1.ownBlock = some b ∧ wr.heap.size ≤ b)
    (hx : E wr ρr x us) (hl : us.length = sz) : Cq E Q w ρ base r e sz (xs ++ [x]) 0 v1 w1 ρr C K (vals ++ us) [] := by
  have hms : ms = [] := List.eq_nil_of_length_eq_zero (by have := h.mks.1; simpa using this)
  subst hms
  have hLi : Lies wr ρr w1 ρr := Lies.grown hg h.work
  refine ⟨h.low, h.rm.grown hg h.work, h.ext.grown hg (fun k hk hlt => absurd (own_base h.own k hk) (by omega)), h.bel.grown hg h.rm.low_size (fun k hk => Nat.le_trans h.low (own_base h.own k hk)), ?_, fun k hk => ?_, Reps.snoc (h.el.imp_ (fun _ _ hp => hP _ _ _ _ _ _ hLi hp)) (hP _ _ _ _ _ _ hLi hx) hl, Reps.none _ _⟩
  · simpa using ho
  · rcases hat with hat | ⟨b, hat, hle⟩
    · exact h.work k (hat.symm.trans hk)
    · rw [hat] at hk
      injection hk with hk
      exact h.rm.fresh k (by omega)

/-- An object that is copied lies where it lay. -/
abbrev SO (ad : Addr) (k : Nat) (o : S62) (A3 : Option Addr) (c3 : Nat) (A4 : Option Addr) (c4 : Nat) (w' : World) : Prop :=
  w'.cell? (ad.add (k * 5)) = some (.int .u64 o.f0) ∧ w'.cell? ⟨(ad.add (k * 5)).block, (ad.add (k * 5)).off + 1, none⟩ = some (.int .i64 o.f1) ∧ w'.cell? ⟨(ad.add (k * 5)).block, (ad.add (k * 5)).off + 2, none⟩ = some (.int .i64 o.f2) ∧ w'.cell? ⟨(ad.add (k * 5)).block, (ad.add (k * 5)).off + 3, none⟩ = some (.slice A3 o.f3.length c3) ∧ w'.cell? ⟨(ad.add (k * 5)).block, (ad.add (k * 5)).off + 4, none⟩ = some (.slice A4 o.f4.length c4)
theorem SO.below {ad : Addr} {k : Nat} {o : S62} {A3 : Option Addr} {c3 : Nat} {A4 : Option Addr} {c4 base : Nat} {w w' : World} (h : SO ad k o A3 c3 A4 c4 w) (hb : Below base w w') (hlt : ad.block < base) : SO ad k o A3 c3 A4 c4 w' := by
  obtain ⟨h0, h1, h2, h3, h4⟩ := h
  have hbk : (ad.add (k * 5)).block < base := by rw [add_block]; exact hlt
  exact ⟨(hb.cell hbk).trans h0, (hb.cell (p := ⟨_, _, none⟩) hbk).trans h1, (hb.cell (p := ⟨_, _, none⟩) hbk).trans h2, (hb.cell (p := ⟨_, _, none⟩) hbk).trans h3, (hb.cell (p := ⟨_, _, none⟩) hbk).trans h4⟩

set_option maxHeartbeats 16000000 in
set_option maxRecDepth 100000 in
theorem Objects_any (wb : World) (r K : Nat) (C : Array Value) (ρ : Nat → Role) (A : Option Addr) (c : Nat) (ls : List S62) (w : World) (hbw : Below wb.heap.size wb w) (hRm : Rm w ρ wb.heap.size r C K) (hl : ls.length ≤ 1000000) (hls : ∀ o ∈ ls, o.f3.length ≤ 1000000 ∧ o.f4.length ≤ 1000000) (hC : k62.C wb A ls.length ls) (hK : K ≤ 3900000000000) :
    Calls Tryd.prog 24 #[.pointer (some ⟨r, 0, none⟩), .slice A ls.length c] w (Lends LO ls w ρ wb.heap.size r (K + ls.length * 2 + 1)) := by
  obtain ⟨i62, hi62, h620, h621, h622⟩ := info_parts info62
  obtain ⟨i22, hi22, h220, h221, h222⟩ := info_parts info22
  have HC := Aside0.mk hC
  have HR := Aside0.mk hRm
  have HW := Aside0.mk hbw
  have HLS := Aside0.mk hls
  have HS : Aside0 (∃ ρr C' vals ms, Cq EO QO w ρ wb.heap.size r 62 5 (ls.take 0) 0 (.slice (some ⟨w.heap.size, 0, none⟩) 0 0) (w.alloc (.cells #[] 62)) ρr C' (K + 0 * 2) vals ms) := ⟨_, _, _, _, Cq.start hRm _ _ #[] rfl⟩
  clear hC hRm hbw hls
  go_enter Tryd.func24, Tryd.ntmps24
  go_wp2
  go_loopw [5, 6] (fun v i wr => ∃ k : Nat, k ≤ ls.length ∧ i = .int .i64 k ∧ Aside0 (∃ ρr C' vals ms, Cq EO QO w ρ wb.heap.size r 62 5 (ls.take k) 0 v wr ρr C' (K + k * 2) vals ms)) (fun _ i _ => ls.length - (intOf i).toNat)
  case atStart => exact ⟨0, Nat.zero_le _, rfl, HS⟩
  case round =>
    clear HS
    obtain ⟨k, hk, rfl, HO⟩ := hrel
    obtain ⟨ρr, C', vals, ms, hq⟩ := HO.out
    have HQ := Aside0.mk hq
    clear HO hq
    by_cases hlt : k < ls.length
    · have HB := Aside0.mk (HW.out.trans HQ.out.bel)
      have hel := at_T62 HC.out (k : Int) (by omega) (by show (k : Int) < (ls.length : Int); omega)
      obtain ⟨ad, A3, c3, A4, c4, rfl, q0, q1, q2, q3, q4, l3, C3, l4, C4⟩ := hel
      have HT : Aside0 (ls.take (k + 1) = ls.take k ++ [ls.getD k z62]) := ⟨by rw [List.take_succ_eq_append_getElem hlt, List.getD_eq_getElem?_getD, List.getElem?_eq_getElem hlt]; rfl⟩
      have HX : Aside0 ((ls.getD k z62).f3.length ≤ 1000000 ∧ (ls.getD k z62).f4.length ≤ 1000000) := ⟨HLS.out _ (mem_getD hlt)⟩
      have hrd : rd_T62 ls (k : Int) = ls.getD k z62 := by simp [rd_T62]
      rw [hrd] at q0 q1 q2 q3 q4 l3 C3 l4 C4
      clear hrd
      generalize ls.getD k z62 = o at *
      simp only [Int.toNat_natCast] at q0 q1 q2 q3 q4
      have HAD : Aside0 (ad.block < wb.heap.size) := ⟨by have := World.block_lt_of_cell? wb _ q0; rwa [add_block] at this⟩
      have hso : SO ad k o A3 c3 A4 c4 wr := SO.below ⟨q0, q1, q2, q3, q4⟩ HB.out HAD.out
      obtain ⟨s0, s1, s2, s3, s4⟩ := hso
      have HSO : Aside0 (SO ad k o A3 c3 A4 c4 wr) := ⟨⟨s0, s1, s2, s3, s4⟩⟩
      have HC3 := Aside0.mk C3
      have HC4 := Aside0.mk C4
      clear q0 q1 q2 q3 q4 l3 C3 l4 C4
      have HD := Aside0.mk (HQ.out.below EO.stay QO.stay (below_drew (Below.refl _ _)))
      have HCI := Aside0.mk (Ints_any wb.heap.size r (K + k * 2) C' ρr A3 c3 o.f3 wr.drew HD.out.rm HX.out.1 (Kd.C_below HC3.out (HW.out.trans HD.out.bel)) (by omega))
      go_wp2_with (fail)
      have HSD := Aside0.mk (SO.below HSO.out (below_drew (Below.refl wb.heap.size wr)) HAD.out)
      have HL1 : Aside0 (K + k * 2 + 1 ≤ 4000000000000) := ⟨by omega⟩
      have HL2 : Aside0 (((ls.take k).length + 0 + 1) * 72 ≤ 140737488355328) := ⟨by have := List.length_take_le k ls; omega⟩
      go_region_held3 (SO ad k o A3 c3 A4 c4) (first | exact HSD.out | exact SO.below HSD.out hB2 HAD.out | exact SO.below (SO.below HSD.out hB2 HAD.out) hB3 HAD.out | exact SO.below (SO.below (SO.below HSD.out hB2 HAD.out) hB3 HAD.out) hB4 HAD.out | exact SO.below (SO.below (SO.below HSD.out hB2 HAD.out) hB3 HAD.out) (Below.alloc (Below.refl wb.heap.size w3) HQ3.out.rm.low_size _) HAD.out | go_keep)
        (first
        | (go_at_call 26; (with_reducible refine HCI.out.mono ?_); rintro en w2 ⟨ρ2, C2, u3, rfl, hR2, hE2, hB2, hu3⟩; have HU3 := Aside0.mk hu3; obtain ⟨f3, cf3, _, _, rfl, -⟩ := hu3; have HQ2 := Aside0.mk (HD.out.call EO.stay QO.stay hR2 hE2 hB2); have HCW := Aside0.mk (Words_any wb.heap.size r (K + k * 2 + 1) C2 ρ2 A4 c4 o.f4 w2 HQ2.out.rm HX.out.2 (Kd.C_below HC4.out (HW.out.trans HQ2.out.bel)) HL1.out))
        | (go_at_call 59; (with_reducible refine HCW.out.mono ?_); rintro en w3 ⟨ρ3, C3, u4, rfl, hR3, hE3, hB3, hu4⟩; have HU4 := Aside0.mk hu4; obtain ⟨f4, cf4, _, _, rfl, -⟩ := hu4; have HQ3 := Aside0.mk (HQ2.out.call EO.stay QO.stay hR3 hE3 hB3); have HU3' := Aside0.mk (LI.stay _ _ _ _ _ _ _ _ hE3.lies HU3.out))
        | (refine step_append_cells (w0 := w3) (W := w3) w.heap.size (by rfl) (.tmp 15) (.tmp 46) 22 62 (.agg #[.int .u64 0, .int .i64 0, .int .i64 0, .slice none 0 0, .slice none 0 0]) 5 72 (by rfl) Tryd.underlying22 info62 rfl (by decide) (by decide) _ _ _ [.int .u64 o.f0, .int .i64 o.f1, .int .i64 o.f2, .slice (some ⟨f3, 0, none⟩) o.f3.length cf3, .slice (some ⟨f4, 0, none⟩) o.f4.length cf4] (by rfl) (by rfl) rfl (one_cells rfl) HQ3.out.own (Below.refl _ _) HQ3.out.ext.size HL2.out ?_; intro v1 w4 ho hb hg hat; have hB4 := hb.mono HQ3.out.low))
      have HN := Aside0.mk (HQ3.out.push3 EO.stay hg ho hat ⟨_, _, rfl, HU3'.out, HU4.out⟩ rfl)
      rw [← HT.out] at HN
      clear ho hg hat hb hB4 hB3 hB2 hE3 hE2 hR3 hR2
      go_wp2_with (fail)
      go_roundw
      case rel => exact ⟨k + 1, by omega, by go_num, ⟨_, _, _, _, by rw [show K + (k + 1) * 2 = K + k * 2 + 1 + 1 by omega]; exact HN.out⟩⟩
      case measure => simp [intOf]; omega
    · obtain rfl : k = ls.length := by omega
      clear hlt hk
      rw [List.take_length] at HQ
      have HS : Aside0 (∃ ρr C' vals ms, Cq EO QO w ρ wb.heap.size r 62 5 ls (2 * 0) _ _ ρr C' (K + ls.length * 2) vals ms) := ⟨_, _, _, _, HQ.out⟩
      clear HQ
      go_wp2
      go_loopw [5, 7] (fun v i wr => ∃ k : Nat, k ≤ 4 ∧ i = .int .i64 ((2 * k : Nat) : Int) ∧ Aside0 (∃ ρr C' vals ms, Cq EO QO w ρ wb.heap.size r 62 5 ls (2 * k) v wr ρr C' (K + ls.length * 2) vals ms)) (fun _ i _ => 8 - (intOf i).toNat)
      case atStart => exact ⟨0, by omega, rfl, HS⟩
      case round =>
        clear HS
        obtain ⟨k, hk, rfl, HO⟩ := hrel
        obtain ⟨ρr, C', vals, ms, hq⟩ := HO.out
        have HQ := Aside0.mk hq
        clear HO hq
        by_cases hlt : k < 4
        · have t1 : ((2 * k : Nat) : Int) < 8 := by omega
          have HQ2 := Aside0.mk (HQ.out.below EO.stay QO.stay (below_alloc (Below.refl _ _) (.cells #[.int .u64 0, .int .i64 (-7701), .int .i64 0, .slice none 0 0, .slice none 0 0, .int .u64 0, .int .i64 (-7702), .int .i64 0, .slice none 0 0, .slice none 0 0] 62)))
          have HM1 : Aside0 (QO wr ρr (2 * k) [.int .u64 0, .int .i64 (-7701), .int .i64 0, .slice none 0 0, .slice none 0 0]) := ⟨by unfold QO markO mk; rw [if_pos (by omega)]⟩
          have HM2 : Aside0 (QO wr ρr (2 * k + 1) [.int .u64 0, .int .i64 (-7702), .int .i64 0, .slice none 0 0, .slice none 0 0]) := ⟨by unfold QO markO mk; rw [if_neg (by omega)]; rfl⟩
          generalize hm : 2 * k = m at t1 HQ2 HM1 HM2
          have HM := Aside0.mk hm
          clear hm
          go_wp2_with (at_builtin; refine wpList_append_own_at _ rfl _ _ 22 rfl w.heap.size 62 i62 (.agg #[.int .u64 0, .int .i64 0, .int .i64 0, .slice none 0 0, .slice none 0 0]) 5 72 Tryd.underlying22 hi62 h620 h621 h622 rfl (by decide) _ _ _ rfl HQ2.out.own ⟨wr.heap.size, 0, none⟩ 2 2 [.int .u64 0, .int .i64 (-7701), .int .i64 0, .slice none 0 0, .slice none 0 0, .int .u64 0, .int .i64 (-7702), .int .i64 0, .slice none 0 0, .slice none 0 0] rfl rfl (row_new wr _ _ 62 rfl) (one_cells rfl) (by unfold maxLen; omega) (by omega) (by have := HQ2.out.ext.size; omega) ?_; intro v1 w3 ho hg _ hat)
          have HN := Aside0.mk (HQ2.out.push2 (us := [_, _, _, _, _]) (us' := [_, _, _, _, _]) EO.stay QO.stay hg ho hat HM1.out HM2.out rfl rfl)
          clear ho hg hat
          go_roundw
          case rel =>
            have := HM.out
            exact ⟨k + 1, by omega, by rw [← this]; go_num, ⟨_, _, _, _, by rw [show 2 * (k + 1) = m + 2 by omega]; exact HN.out⟩⟩
          case measure => simp [intOf]; omega
        · obtain rfl : k = 4 := by omega
          clear hlt hk
          obtain ⟨f, cap, cs, rfl, hfb, hcap, hfc, hfw, hcs⟩ := HQ.out.form (by omega)
          have HF := Aside0.mk (And.intro hfb (And.intro hcap (And.intro hfc (And.intro hfw hcs))))
          have HR2 := Aside0.mk (HQ.out.rm.settle hfw (blk_lt hfc) (Nat.le_trans HQ.out.low hfb) (.fix (ls.length * 5)))
          obtain ⟨vh, hvals, hC1, hown1, hlen1, hrole1, hmk1⟩ := HR2.out.fld _ fl7
          obtain ⟨A1, c1, rfl⟩ := own_slice hown1
          have HV := Aside0.mk (And.intro hC1 (And.intro hown1 (And.intro hlen1 (And.intro hrole1 hmk1))))
          have hr1 : wr.cell? ⟨r, 7, none⟩ = some (.slice A1 hvals.length c1) := (blk_cell HR2.out.blk 7).trans hC1
          clear hfb hcap hfc hfw hcs hC1 hown1 hlen1 hrole1 hmk1
          have p1 : (ls.length : Int) + 8 ≤ (cap : Int) := by have := HF.out.2.1; omega
          have p2 : ls.length + 8 ≤ cap := by omega
          have p3 : ls.length ≤ ls.length + 8 := by omega
          have hg1 : (wr.alloc (.cells #[.slice (some ⟨f, 0, none⟩) (ls.length + 2 * 4) cap] 22)).heap[r]? = some (.cells C' 38 (0, 0)) := blk_alloc HR2.out.blk _
          go_wp2_with (at_builtin; refine wpList_append_own_at _ rfl _ _ 36 rfl wb.heap.size 22 i22 (.slice none 0 0) 1 24 Tryd.underlying36 hi22 h220 h221 h222 rfl (by decide) _ _ _ rfl (HV.out.2.1.alloc _) ⟨wr.heap.size, 0, none⟩ 1 1 [.slice (some ⟨f, 0, none⟩) (ls.length + 2 * 4) cap] rfl rfl (row_new wr _ _ 22 rfl) (one_cells rfl) (by have := HV.out.2.2.1; unfold maxLen; omega) (by have := HV.out.2.2.1; omega) (by have := HR2.out.lt; have := HR2.out.low; simp; omega) ?_; intro v2 w2 ho hg _ hat; obtain ⟨f2, c2, rfl, -, -⟩ := ho.form (by omega); have hb2 := blk_grown hg1 hg (own_ne HV.out.2.1 HR2.out.blk (by decide)); have hcg := (blk_cell hb2 7).trans HV.out.1; have hfz := blk_frozen hb2 7)
          refine bodyPost_ret (v := .slice (some ⟨f, 0, none⟩) ls.length (ls.length + 8)) (by simp [results, Tryd.results24, go_sem]) rfl ?_
          obtain ⟨hfb, hcap, hfc, hfw, hcs⟩ := HF.out
          obtain ⟨hC1, hown1, hlen1, hrole1, hmk1⟩ := HV.out
          have hvl : vals.length = ls.length * 5 := HQ.out.el.1
          refine lends_of HQ.out.ext HQ.out.bel hfb HR2.out HQ.out.low fl7 hC1 hown1 hlen1 hrole1 hmk1 ?_ hg ho hat ?_
          · refine ⟨f, ls.length + 8, cap, rfl, by omega, by omega, by omega, fun j hj i x hx => ?_⟩
            obtain ⟨us, hus, -, hcell⟩ := reps_cell HQ.out.mks (j := j) (x := j) (by rw [List.getElem?_range (by omega)])
            refine ⟨?_, ls.length * 5, up_at _ _ _, by omega⟩
            rw [blk_cell hfc]
            refine hcs _ _ ?_
            rw [List.getElem?_append_right (by omega), show (ls.length + 8 - 8 + j) * 5 + i - vals.length = j * 5 + i by omega]
            exact hcell i _ (by rw [hus]; exact hx)
          · intro w' ρ' hl'
            refine LO.stay _ _ _ _ _ _ hl' ⟨f, ls.length + 8, cs, ls.length * 5, rfl, by omega, by omega, hfc, up_at _ _ _, Nat.le_refl _, fun j o hx => ?_⟩
            obtain ⟨us, ⟨v3, v4, rfl, h3, h4⟩, -, hcell⟩ := reps_cell HQ.out.el hx
            have hj : j < ls.length := (List.getElem?_eq_some_iff.1 hx).1
            have hc : ∀ (i : Nat) (u : Value), ([.int .u64 o.f0, .int .i64 o.f1, .int .i64 o.f2, v3, v4] : List Value)[i]? = some u → cs[j * 5 + i]? = some u := fun i u hu => by
              have hi : i < 5 := by simpa using (List.getElem?_eq_some_iff.1 hu).1
              refine hcs _ _ ?_
              rw [List.getElem?_append_left (by omega)]
              exact hcell i u hu
            exact ⟨v3, v4, hc 0 _ rfl, hc 1 _ rfl, hc 2 _ rfl, hc 3 _ rfl, hc 4 _ rfl, LI.stay _ _ _ _ _ _ _ _ (Lies.up hfw _) h3, LI.stay _ _ _ _ _ _ _ _ (Lies.up hfw _) h4⟩
end Go.Proofs.YtihjjkoddphmiaaDoor.img
