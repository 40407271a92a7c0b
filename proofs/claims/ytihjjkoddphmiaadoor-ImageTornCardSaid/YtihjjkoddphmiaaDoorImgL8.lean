/-
  The walk of middenlaw16.ImageTorn, fn 8.
-/
import Derived.Test.YtihjjkoddphmiaaDoorImgLs
namespace Go.Proofs.YtihjjkoddphmiaaDoor.img
open Go.RowKit Go.Proofs.YtihjjkoddphmiaaDoorW.PrintWords Go.Proofs.YtihjjkoddphmiaaDoorW.PrintLast Go.Proofs.YtihjjkoddphmiaaDoorW.PrintMore Go.Proofs.YtihjjkoddphmiaaDoor.PImageRound
set_option linter.unusedVariables false
set_option linter.unusedSimpArgs false

theorem Good.size2 {g : Gr} (h : Good g) (ht : total g ≤ 16384) : (image g).length ≤ 860000 := by
  have hn := total_near ht
  have h1 := encOs_size g.objs 0 h.objs hn.obj
  have h2 : (encL (encL (encL (encI 0))) g.slots).length ≤ 10 + (g.slots.length * 10 + sumS g.slots * 10) := by
    have hf := flat_sum (E := encL (encL (encI 0))) (fun fr : List (List Int) => 10 + (fr.length + sumF fr) * 10) (l := g.slots) (fun fr hf => by
      obtain ⟨c1, c2⟩ := h.slots.2 fr hf
      have hf2 := flat_sum (E := encL (encI 0)) (fun f : List Int => 10 + f.length * 10) (l := fr) (fun f hff => encL_ints (by have := (c2 f hff).1; omega) (fun x hx => by have := (c2 f hff).2 x hx; omega))
      rw [sum_map_ten] at hf2
      have e0 : (enc fr.length).length ≤ 10 := enc_ten (by omega)
      have hs : sumF fr = (fr.map List.length).sum := rfl
      show (encL (encL (encI 0)) fr).length ≤ 10 + (fr.length + sumF fr) * 10
      unfold encL
      rw [List.length_append]
      unfold encL at hf2
      omega)
    rw [sum_map_ten] at hf
    have e0 : (enc g.slots.length).length ≤ 10 := enc_ten (by have := hn.slots; omega)
    have hs : sumS g.slots = (g.slots.map fun fr => fr.length + sumF fr).sum := rfl
    unfold encL
    rw [List.length_append]
    unfold encL at hf
    omega
  have h3 := encL_ints (more := 1) (l := g.handles) (by have := hn.handles; omega) (fun x hx => by have := h.handles.2 x hx; omega)
  have h4 := encL_ints (more := 0) (l := g.queue) (by have := hn.queue; omega) (fun x hx => by have := h.queue x hx; omega)
  have h5 : (enc g.next.toNat).length ≤ 10 := enc_ten (by have := h.next; omega)
  have h6 : (enc g.objs.length).length ≤ 10 := enc_ten (by have := hn.objs; omega)
  rw [image_len, body_eq, List.length_append]
  have h7 : head.length = 4 := rfl
  unfold rest
  unfold total at ht
  simp only [List.length_append, h7]
  omega

theorem tmod_cases (a : Int) (m : Nat) (h : 0 < m) (hm : m ≤ 860000) : (∃ n : Nat, n < m ∧ a.tmod (m : Int) = (n : Int)) ∨ (a.tmod (m : Int) < 0 ∧ ∃ n : Nat, n < m ∧ wrap64 (a.tmod (m : Int) + (m : Int)) = (n : Int)) := by
  have h1 : (a.tmod (m : Int)).natAbs < m := by
    rw [Int.natAbs_tmod]
    exact Nat.mod_lt _ (by omega)
  by_cases hs : a.tmod (m : Int) < 0
  · refine .inr ⟨hs, (a.tmod (m : Int) + (m : Int)).toNat, by omega, ?_⟩
    rw [wrap_small (by omega)]
    omega
  · exact .inl ⟨(a.tmod (m : Int)).toNat, by omega, by omega⟩
theorem R_form {e base : Nat} {w : World} {ok : Nat → Prop} {v : Value} {xs : List Int} {k : IntKind} (h : (Kd.int k).R e w base ok v xs) (hn : 0 < xs.length) : ∃ g c, v = .slice (some ⟨g, 0, none⟩) xs.length c ∧ base ≤ g ∧ g < w.heap.size := by
  obtain ⟨_, inner, ho, _⟩ := h
  obtain ⟨g, c, e, h1, h2⟩ := ho.form hn
  exact ⟨g, c, e, h1, h2⟩
theorem empty_row (w : World) (base : Nat) (h : base ≤ w.heap.size) : (Kd.int .u8).R 5 (w.alloc (.cells #[] 5)) base (fun _ => True) (.slice (some ⟨w.heap.size, 0, none⟩) 0 0) [] :=
  R_block (k := .u8) (xs := []) (heap_alloc_new w (.cells #[] 5)) h (by decide)
theorem row_at {e base g n c : Nat} {w : World} {ok : Nat → Prop} {xs : List Int} (h : (Kd.int .u8).R e w base ok (.slice (some ⟨g, 0, none⟩) c n) xs) {i : Nat} (hi : i < c) : ∃ y, xs.getD i 0 = y ∧ w.cell? ⟨g, i, none⟩ = some (.int .u8 y) ∧ w.frozen? ⟨g, i, none⟩ = false := by
  obtain ⟨cs, -, hM, hcell, hf⟩ := Kd.R_elem h 0 (i : Int) (by omega) (by omega)
  have h0 := hf 0
  have e : cs = [.int .u8 (xs.getD i 0)] := hM
  have h1 := hcell 0 (.int .u8 (xs.getD i 0)) (by rw [e]; rfl)
  exact ⟨_, rfl, by simpa [Kd.int, Kd.scalar] using h1, by simpa [Kd.int, Kd.scalar] using h0⟩
theorem torn_read {g : Gr} {I : List Int} {n c g6 base : Nat} {y0 x : Int} {w : World} (hI : image g = I) (hb : Bytes I) (hl : I.length ≤ 860000) (hn : n < I.length) (hR : (Kd.int .u8).R 5 w base (fun _ => True) (.slice (some ⟨g6, 0, none⟩) I.length c) I) (hy : I.getD n 0 = y0) (hx : 0 ≤ x ∧ x < 256) (hx0 : ¬ x = 0) (hT : Tabs (w.setCell ⟨g6, n, none⟩ (.int .u8 ((y0 + x) % 256)))) :
    Calls Tryd.prog 22 #[.slice (some ⟨g6, 0, none⟩) I.length c] (w.setCell ⟨g6, n, none⟩ (.int .u8 ((y0 + x) % 256))) fun e w' => ∃ (q : Nat) (code : Int), e = .returned (.tuple #[.agg Z6, .int .i64 q, .int .i64 code]) ∧ 160 ≤ code ∧ Below (w.setCell ⟨g6, n, none⟩ (.int .u8 ((y0 + x) % 256))).heap.size (w.setCell ⟨g6, n, none⟩ (.int .u8 ((y0 + x) % 256))) w' := by
  have hz : 0 ≤ (y0 + x) % 256 ∧ (y0 + x) % 256 < 256 := by omega
  have hmem : y0 ∈ I := by
    rw [← hy, List.getD_eq_getElem?_getD, List.getElem?_eq_getElem hn]
    exact List.getElem_mem hn
  have hy1 := hb y0 hmem
  have hne : y0 ≠ (y0 + x) % 256 := by omega
  have hput : (Kd.int .u8).R 5 (w.setCell ⟨g6, n, none⟩ (.int .u8 ((y0 + x) % 256))) base (fun _ => True) (.slice (some ⟨g6, 0, none⟩) I.length c) (I.set n ((y0 + x) % 256)) := by
    have h := Kd.R_putn hR (n : Int) ((y0 + x) % 256)
    rw [Int.toNat_natCast] at h
    exact h
  generalize (y0 + x) % 256 = z at hz hne hput hT ⊢
  obtain ⟨A', c', e, hlc, hC⟩ := Kd.R_reads hput
  have hls : (I.set n z).length = I.length := List.length_set
  rw [hls] at e hlc
  injection e with e1 e2 e3
  subst e1 e3
  have h := Read_any (some ⟨g6, 0, none⟩) c (I.set n z) _ (fun v hv => by
    rcases List.mem_or_eq_of_mem_set hv with h | h
    · exact hb v h
    · rw [h]; exact hz) (by omega) (by omega) hC hT
  rw [hls] at h
  refine h.mono ?_
  have hf := read_fine (I.set n z)
  have ht : ∀ g2 q, readR (I.set n z) ≠ .ok g2 q := fun g2 q => by
    subst hI
    exact torn_byte hn hy hz hne g2 q
  rintro en w' ⟨hbw, hp⟩
  cases hr : readR (I.set n z) with
  | ok g2 q => exact absurd hr (ht g2 q)
  | bad q code =>
    rw [hr] at hp hf
    exact ⟨q, code, hp, hf.2, hbw⟩
theorem cut_read {g : Gr} {I : List Int} {n c : Nat} {A : Option Addr} {w : World} (hI : image g = I) (hf : Fit g) (hn : n < I.length) (hc : I.length ≤ c) (hl : I.length ≤ 860000) (hC : Kd.C (Kd.int .u8) w A I.length I) (hT : Tabs w) :
    Calls Tryd.prog 22 #[.slice A n c] w (ReadPost w (.bad n 160)) := by
  subst hI
  have e : ((image g).take n).length = n := by rw [List.length_take]; omega
  have h := Read_any A c ((image g).take n) w (fun x hx => image_bytes g x (List.mem_of_mem_take hx)) (by omega) (by omega) (Kd.C_take hC (by omega)) hT
  rw [torn_cut hf hn, e] at h
  exact h
theorem more_read {g : Gr} {I ms : List Int} {c base : Nat} {A : Option Addr} {w : World} (hI : image g = I) (hf : Fit g) (hrt : readR I = .ok g 0) (hb : Bytes I) (hm : Bytes ms) (hl : I.length ≤ 860000) (hms : ¬ 131072 < ms.length) (hR : (Kd.int .u8).R 5 w base (fun _ => True) (.slice A (I ++ ms).length c) (I ++ ms)) (hT : Tabs w) :
    (ms = [] → Calls Tryd.prog 22 #[.slice A (I.length + ms.length) c] w fun e w' => ∃ u, e = .returned (.tuple #[u, .int .i64 0, .int .i64 0]) ∧ Below w.heap.size w w') ∧
    (ms ≠ [] → Calls Tryd.prog 22 #[.slice A (I.length + ms.length) c] w fun e w' => e = .returned (.tuple #[.agg Z6, .int .i64 I.length, .int .i64 162]) ∧ Below w.heap.size w w') := by
  obtain ⟨A', c', e, hlc, hC⟩ := Kd.R_reads hR
  injection e with e1 e2 e3
  subst e1 e3
  have h := Read_any A c (I ++ ms) w (hb.app hm) (by rw [List.length_append]; omega) hlc hC hT
  rw [List.length_append] at h
  refine ⟨fun hn => ?_, fun hn => ?_⟩
  · subst hn
    have e : readR (I ++ []) = .ok g 0 := by rw [List.append_nil]; exact hrt
    rw [e] at h
    refine h.mono ?_
    rintro en w' ⟨hb, v0, v1, v2, v3, v4, rfl, -⟩
    exact ⟨_, rfl, hb⟩
  · subst hI
    rw [torn_more hf hn] at h
    refine h.mono ?_
    rintro en w' ⟨hb, rfl⟩
    exact ⟨rfl, hb⟩

set_option maxHeartbeats 8000000 in
set_option maxRecDepth 100000 in
theorem torn_any (L : Lay) (g : Gr) (a : Int) (x : Int) (B : Option Addr) (cb : Nat) (ms : List Int) (w : World) (hR : Rd w L g) (hrm : Roomy g) (hwd : Words g) (hfair : ∀ W', Below w.heap.size w W' → Fair W' L g) (hT : Tabs w)
    (ha : -9223372036854775808 ≤ a ∧ a ≤ 9223372036854775807) (hx : 0 ≤ x ∧ x < 256) (hmb : Bytes ms) (hmc : ms.length ≤ cb) (hml : ms.length ≤ 9223372036854775807) (hMC : Kd.C (Kd.int .u8) w B ms.length ms) :
    Calls Tryd.prog 8 #[.agg (gcells L g).toArray, .int .i64 a, .int .u8 x, .slice B ms.length cb] w fun e w' => e = .returned (.bool true) ∧ Below w.heap.size w w' := by
  obtain ⟨r, hsm, hsmall⟩ := small_any (L := L) hrm
  have HSM := Aside0.mk (fun (w' : World) (hb : Below w.heap.size w w') => hsmall w' (hR.below hb))
  have HKN := Aside0.mk (fun (w' : World) (hb : Below w.heap.size w w') => opening_any w' (hT.below hb))
  have HWB := Aside0.mk (fun (hn : Near g) (hok : okB g = false) (w' : World) (hb : Below w.heap.size w w') => Write_bad L g hn w' (hR.below hb) (hT.below hb) hok)
  have HWO := Aside0.mk (fun (hn : Near g) (hok : okB g = true) (w' : World) (hb : Below w.heap.size w w') => Write_ok L g hn hwd w' (hR.below hb) (hT.below hb) hok (hfair w' hb).h0 (hfair w' hb).h1 (hfair w' hb).h2 (hfair w' hb).h4)
  have HSR := Aside0.mk hsm
  have HT := Aside0.mk hT
  have HWD := Aside0.mk hwd
  have HMC := Aside0.mk hMC
  have HMB := Aside0.mk hmb
  obtain ⟨C, hC⟩ : ∃ C : List Value, gcells L g = C := ⟨_, rfl⟩
  rw [hC] at HSM HWB HWO ⊢
  obtain ⟨v0, v1, v2, v3, v4, v5, rfl⟩ : ∃ v0 v1 v2 v3 v4 v5, C = [v0, v1, v2, v3, v4, v5] := ⟨_, _, _, _, _, _, hC.symm⟩
  clear hsm hsmall hR hrm hwd hfair hT hC hMC hmb
  have HB0 : Aside0 (Box w (w.alloc (.cells #[v0, v1, v2, v3, v4, v5] 27)) v0 v1 v2 v3 v4 v5) := ⟨below_alloc (Below.refl _ _) _, heap_alloc_new w _⟩
  go_enter Tryd.func8, Tryd.ntmps8
  go_wp2_with (fail)
  refine (HKN.out _ HB0.out.bel).mono ?_
  rintro en w1 ⟨rfl, hb1⟩
  have HB1 := Aside0.mk (HB0.out.below hb1)
  obtain ⟨k0, k1, k2, k3, k4, k5⟩ := HB1.out.cells
  clear hb1 HKN HB0
  go_wp2_with (fail)
  refine (HSM.out _ HB1.out.bel).mono ?_
  rintro en w2 ⟨rfl, hb2⟩
  have HB2 := Aside0.mk (HB1.out.below hb2)
  clear hb2 HSM k0 k1 k2 k3 k4 k5 HB1
  obtain ⟨k0, k1, k2, k3, k4, k5⟩ := HB2.out.cells
  cases r with
  | false =>
    go_wp2_with (fail)
    go_ret
    exact ⟨rfl, HB2.out.bel⟩
  | true =>
    have htot := HSR.out rfl
    have HNR := Aside0.mk (total_near htot)
    have HTO := Aside0.mk htot
    clear htot HSR
    by_cases hbig : 131072 < ms.length
    · have hbig2 : (131072 : Int) < (ms.length : Int) := by omega
      go_wp2_with (fail)
      go_ret
      exact ⟨rfl, HB2.out.bel⟩
    · have hbig2 : ¬ ((131072 : Int) < (ms.length : Int)) := by omega
      cases hok : okB g with
      | false =>
        have HOK := Aside0.mk hok
        clear hok
        go_wp2_with (fail)
        refine (HWB.out HNR.out HOK.out _ HB2.out.bel).mono ?_
        rintro en w3 ⟨rfl, hb3⟩
        have HB3 := Aside0.mk (HB2.out.below hb3)
        clear hb3 HWB HB2 k0 k1 k2 k3 k4 k5
        go_wp2_with (go_at_call 12; refine (num_is _ _).mono ?_; rintro en w' ⟨rfl, rfl⟩)
        go_ret
        exact ⟨rfl, HB3.out.bel⟩
      | true =>
        have HOK := Aside0.mk hok
        clear hok
        go_wp2_with (fail)
        refine (HWO.out HNR.out HOK.out _ HB2.out.bel).mono ?_
        rintro en w3 ⟨v, rfl, hv, hb3⟩
        obtain ⟨Ai, ci, rfl, hli, hCi⟩ := Kd.R_reads hv
        have HB3 := Aside0.mk (HB2.out.below hb3)
        have HIM := Aside0.mk hCi
        have hgood := good_of HNR.out HWD.out HOK.out
        have hlen := hgood.size2 HTO.out
        have HFT := Aside0.mk (hgood.fit HNR.out)
        have HRT := Aside0.mk (round_trip HNR.out HWD.out HOK.out)
        have hpos : 8 ≤ (image g).length := by have h1 := image_len g; have h2 := body_four g; omega
        have HIB := Aside0.mk (image_bytes g)
        obtain ⟨I, hI⟩ : ∃ I, image g = I := ⟨_, rfl⟩
        have HII := Aside0.mk hI
        rw [hI] at HIM HIB hli hlen hpos HRT ⊢
        clear hb3 HWO HB2 k0 k1 k2 k3 k4 k5 hv hCi hgood hI
        have hne : ¬ ((I.length : Int) = 0) := by omega
        rcases tmod_cases a I.length (by omega) hlen with ⟨n, hn, hN⟩ | ⟨hneg, n, hn, hN⟩
        · have hn1 : (n : Int) < (I.length : Int) := by omega
          have hn0 : (0 : Int) ≤ (n : Int) := by omega
          have hn2 : ¬ ((n : Int) < 0) := by omega
          by_cases hx0 : x = 0
          · subst hx0
            have HCR := Aside0.mk (fun (w' : World) (hb : Below w3.heap.size w3 w') => cut_read HII.out HFT.out hn hli hlen (Kd.C_below HIM.out hb) (HT.out.below (below_step HB3.out.bel hb)))
            have hcut := cut_is (A := Ai) (c := ci) (l := I) n (Nat.le_of_lt hn) hli
            go_wp2_with (go_at_call 12; refine (num_is _ _).mono ?_; rintro en w' ⟨rfl, rfl⟩)
            refine (HCR.out _ (Below.refl w3.heap.size w3)).mono ?_
            rintro en w5 ⟨hb5, rfl⟩
            have HB5 := Aside0.mk (below_step (Below.refl w3.heap.size w3) hb5)
            clear hb5 HCR hcut
            have HB5A := Aside0.mk (below_alloc (below_alloc HB5.out (.cells Z6 27)) (.cells #[] 5))
            have HO5 := Aside0.mk (empty_row ((w5.alloc (.cells Z6 27))) w3.heap.size (Nat.le_trans HB5.out.size (by simp)))
            have HC5 := Aside0.mk (Kd.C_below HIM.out HB5A.out)
            rw [show (w5.alloc (.cells Z6 27)).heap.size = w5.heap.size + 1 by simp] at HO5
            have HC8 := Aside0.mk (fun (w' : World) (hb : Below w3.heap.size w3 w') => Kd.C_below HMC.out (below_step HB3.out.bel hb))
            go_wp2_with (first | (go_at_call 12; refine (num_is _ _).mono ?_; rintro en w' ⟨rfl, rfl⟩) | (refine Kd.R_append_row (w0 := w3) (Value.int .u8) 0 (h1 := fun _ => rfl) w3.heap.size rfl (.tmp 90) (.tmp 91) 47 5 (.int .u8 0) 1 rfl Tryd.underlying47 info5 rfl (by decide) (.slice (some ⟨w5.heap.size + 1, 0, none⟩) 0 0) [] I Ai I.length ci (fun _ => True) rfl (by first | (go_simp; done) | (go_simp; rfl)) (fun _ _ => trivial) HO5.out HC5.out HB5A.out HB5A.out.size (by first | omega | (simp only [List.length_nil]; omega)) ?_; intro v8 w8 ho8 hb8 hg8 hat8; have HO8 := Aside0.mk ho8; have HB8 := Aside0.mk hb8; have ho8 : (Kd.int .u8).R 5 w8 w3.heap.size (fun _ => True) v8 I := ho8; have HO8 := Aside0.mk ho8; obtain ⟨A8, c8, hv8⟩ := Kd.R_slice ho8; subst hv8; clear ho8 hb8 hg8 hat8) | (refine Kd.R_append_row (w0 := w3) (Value.int .u8) 0 (h1 := fun _ => rfl) w3.heap.size rfl (.tmp 92) (.tmp 93) 47 5 (.int .u8 0) 1 rfl Tryd.underlying47 info5 rfl (by decide) (.slice A8 I.length c8) I ms B ms.length cb (fun _ => True) rfl (by first | (go_simp; done) | (go_simp; rfl)) (fun _ _ => trivial) HO8.out (HC8.out _ HB8.out) HB8.out HB8.out.size (by first | omega | (simp only [List.length_nil]; omega)) ?_; intro v9 w9 ho9 hb9 hg9 hat9; have HO9 := Aside0.mk ho9; have HB9 := Aside0.mk hb9; have ho9 : (Kd.int .u8).R 5 w9 w3.heap.size (fun _ => True) v9 (I ++ ms) := ho9; have HO9 := Aside0.mk ho9; obtain ⟨A9, c9, hv9⟩ := Kd.R_slice ho9; subst hv9; clear ho9 hb9 hg9 hat9))
            have HR9 := Aside0.mk (more_read HII.out HFT.out HRT.out HIB.out HMB.out hlen hbig HO9.out (HT.out.below (below_step HB3.out.bel HB9.out)))
            by_cases hms : ms = []
            · subst hms
              refine (HR9.out.1 rfl).mono ?_
              rintro en w10 ⟨u, rfl, hb10⟩
              have HB10 := Aside0.mk (below_step HB9.out hb10)
              clear hb10 HR9
              go_wp2_with (go_at_call 12; refine (num_is _ _).mono ?_; rintro en w' ⟨rfl, rfl⟩)
              go_ret
              exact ⟨rfl, below_step HB3.out.bel HB10.out⟩
            · have hml0 : ¬ ((ms.length : Int) = 0) := by
                intro h
                exact hms (List.length_eq_zero_iff.1 (by omega))
              refine (HR9.out.2 hms).mono ?_
              rintro en w10 ⟨rfl, hb10⟩
              have HB10 := Aside0.mk (below_step HB9.out hb10)
              clear hb10 HR9
              go_wp2_with (go_at_call 12; refine (num_is _ _).mono ?_; rintro en w' ⟨rfl, rfl⟩)
              go_ret
              exact ⟨rfl, below_step HB3.out.bel HB10.out⟩
          · have HB4A := Aside0.mk (below_alloc (Below.refl w3.heap.size w3) (.cells #[] 5))
            have HO4 := Aside0.mk (empty_row w3 w3.heap.size (Nat.le_refl _))
            have HC4 := Aside0.mk (Kd.C_below HIM.out HB4A.out)
            go_wp2_with (first | (go_at_call 12; refine (num_is _ _).mono ?_; rintro en w' ⟨rfl, rfl⟩) | (refine Kd.R_append_row (w0 := w3) (Value.int .u8) 0 (h1 := fun _ => rfl) w3.heap.size rfl (.tmp 53) (.tmp 54) 47 5 (.int .u8 0) 1 rfl Tryd.underlying47 info5 rfl (by decide) (.slice (some ⟨w3.heap.size, 0, none⟩) 0 0) [] I Ai I.length ci (fun _ => True) rfl (by first | (go_simp; done) | (go_simp; rfl)) (fun _ _ => trivial) HO4.out HC4.out HB4A.out HB4A.out.size (by first | omega | (simp only [List.length_nil]; omega)) ?_; intro v6 w6 ho6 hb6 hg6 hat6; have HO6 := Aside0.mk ho6; have HB6 := Aside0.mk hb6; have ho6 : (Kd.int .u8).R 5 w6 w3.heap.size (fun _ => True) v6 I := ho6; obtain ⟨g6, c6, hv6, hgb6, hgl6⟩ := R_form ho6 (by omega); subst hv6; clear hb6 hg6 hat6; obtain ⟨y0, hy0, hcell6, hfz6⟩ := row_at ho6 hn; have HY0 := Aside0.mk hy0; clear ho6 hy0))
            have HR7 := Aside0.mk (torn_read (x := x) HII.out HIB.out hlen hn HO6.out HY0.out hx hx0 (HT.out.below (below_step HB3.out.bel (below_set HB6.out hgb6))))
            refine HR7.out.mono ?_
            rintro en w7 ⟨q, code, rfl, hcode, hb7⟩
            have HB7 := Aside0.mk (below_step (below_set HB6.out hgb6) hb7)
            have hcode0 : ¬ (code = 0) := by omega
            clear hb7 HR7 hcell6 hfz6
            have HCR := Aside0.mk (fun (w' : World) (hb : Below w3.heap.size w3 w') => cut_read HII.out HFT.out hn hli hlen (Kd.C_below HIM.out hb) (HT.out.below (below_step HB3.out.bel hb)))
            have hcut := cut_is (A := Ai) (c := ci) (l := I) n (Nat.le_of_lt hn) hli
            go_wp2_with (go_at_call 12; refine (num_is _ _).mono ?_; rintro en w' ⟨rfl, rfl⟩)
            refine (HCR.out _ (below_alloc HB7.out _)).mono ?_
            rintro en w5 ⟨hb5, rfl⟩
            have HB5 := Aside0.mk (below_step (below_alloc HB7.out _) hb5)
            clear hb5 HCR hcut
            have HB5A := Aside0.mk (below_alloc (below_alloc HB5.out (.cells Z6 27)) (.cells #[] 5))
            have HO5 := Aside0.mk (empty_row ((w5.alloc (.cells Z6 27))) w3.heap.size (Nat.le_trans HB5.out.size (by simp)))
            have HC5 := Aside0.mk (Kd.C_below HIM.out HB5A.out)
            rw [show (w5.alloc (.cells Z6 27)).heap.size = w5.heap.size + 1 by simp] at HO5
            have HC8 := Aside0.mk (fun (w' : World) (hb : Below w3.heap.size w3 w') => Kd.C_below HMC.out (below_step HB3.out.bel hb))
            go_wp2_with (first | (go_at_call 12; refine (num_is _ _).mono ?_; rintro en w' ⟨rfl, rfl⟩) | (refine Kd.R_append_row (w0 := w3) (Value.int .u8) 0 (h1 := fun _ => rfl) w3.heap.size rfl (.tmp 90) (.tmp 91) 47 5 (.int .u8 0) 1 rfl Tryd.underlying47 info5 rfl (by decide) (.slice (some ⟨w5.heap.size + 1, 0, none⟩) 0 0) [] I Ai I.length ci (fun _ => True) rfl (by first | (go_simp; done) | (go_simp; rfl)) (fun _ _ => trivial) HO5.out HC5.out HB5A.out HB5A.out.size (by first | omega | (simp only [List.length_nil]; omega)) ?_; intro v8 w8 ho8 hb8 hg8 hat8; have HO8 := Aside0.mk ho8; have HB8 := Aside0.mk hb8; have ho8 : (Kd.int .u8).R 5 w8 w3.heap.size (fun _ => True) v8 I := ho8; have HO8 := Aside0.mk ho8; obtain ⟨A8, c8, hv8⟩ := Kd.R_slice ho8; subst hv8; clear ho8 hb8 hg8 hat8) | (refine Kd.R_append_row (w0 := w3) (Value.int .u8) 0 (h1 := fun _ => rfl) w3.heap.size rfl (.tmp 92) (.tmp 93) 47 5 (.int .u8 0) 1 rfl Tryd.underlying47 info5 rfl (by decide) (.slice A8 I.length c8) I ms B ms.length cb (fun _ => True) rfl (by first | (go_simp; done) | (go_simp; rfl)) (fun _ _ => trivial) HO8.out (HC8.out _ HB8.out) HB8.out HB8.out.size (by first | omega | (simp only [List.length_nil]; omega)) ?_; intro v9 w9 ho9 hb9 hg9 hat9; have HO9 := Aside0.mk ho9; have HB9 := Aside0.mk hb9; have ho9 : (Kd.int .u8).R 5 w9 w3.heap.size (fun _ => True) v9 (I ++ ms) := ho9; have HO9 := Aside0.mk ho9; obtain ⟨A9, c9, hv9⟩ := Kd.R_slice ho9; subst hv9; clear ho9 hb9 hg9 hat9))
            have HR9 := Aside0.mk (more_read HII.out HFT.out HRT.out HIB.out HMB.out hlen hbig HO9.out (HT.out.below (below_step HB3.out.bel HB9.out)))
            by_cases hms : ms = []
            · subst hms
              refine (HR9.out.1 rfl).mono ?_
              rintro en w10 ⟨u, rfl, hb10⟩
              have HB10 := Aside0.mk (below_step HB9.out hb10)
              clear hb10 HR9
              go_wp2_with (go_at_call 12; refine (num_is _ _).mono ?_; rintro en w' ⟨rfl, rfl⟩)
              go_ret
              exact ⟨rfl, below_step HB3.out.bel HB10.out⟩
            · have hml0 : ¬ ((ms.length : Int) = 0) := by
                intro h
                exact hms (List.length_eq_zero_iff.1 (by omega))
              refine (HR9.out.2 hms).mono ?_
              rintro en w10 ⟨rfl, hb10⟩
              have HB10 := Aside0.mk (below_step HB9.out hb10)
              clear hb10 HR9
              go_wp2_with (go_at_call 12; refine (num_is _ _).mono ?_; rintro en w' ⟨rfl, rfl⟩)
              go_ret
              exact ⟨rfl, below_step HB3.out.bel HB10.out⟩
        · have hn1 : (n : Int) < (I.length : Int) := by omega
          have hn0 : (0 : Int) ≤ (n : Int) := by omega
          have hn2 : ¬ ((n : Int) < 0) := by omega
          by_cases hx0 : x = 0
          · subst hx0
            have HCR := Aside0.mk (fun (w' : World) (hb : Below w3.heap.size w3 w') => cut_read HII.out HFT.out hn hli hlen (Kd.C_below HIM.out hb) (HT.out.below (below_step HB3.out.bel hb)))
            have hcut := cut_is (A := Ai) (c := ci) (l := I) n (Nat.le_of_lt hn) hli
            go_wp2_with (go_at_call 12; refine (num_is _ _).mono ?_; rintro en w' ⟨rfl, rfl⟩)
            refine (HCR.out _ (Below.refl w3.heap.size w3)).mono ?_
            rintro en w5 ⟨hb5, rfl⟩
            have HB5 := Aside0.mk (below_step (Below.refl w3.heap.size w3) hb5)
            clear hb5 HCR hcut
            have HB5A := Aside0.mk (below_alloc (below_alloc HB5.out (.cells Z6 27)) (.cells #[] 5))
            have HO5 := Aside0.mk (empty_row ((w5.alloc (.cells Z6 27))) w3.heap.size (Nat.le_trans HB5.out.size (by simp)))
            have HC5 := Aside0.mk (Kd.C_below HIM.out HB5A.out)
            rw [show (w5.alloc (.cells Z6 27)).heap.size = w5.heap.size + 1 by simp] at HO5
            have HC8 := Aside0.mk (fun (w' : World) (hb : Below w3.heap.size w3 w') => Kd.C_below HMC.out (below_step HB3.out.bel hb))
            go_wp2_with (first | (go_at_call 12; refine (num_is _ _).mono ?_; rintro en w' ⟨rfl, rfl⟩) | (refine Kd.R_append_row (w0 := w3) (Value.int .u8) 0 (h1 := fun _ => rfl) w3.heap.size rfl (.tmp 90) (.tmp 91) 47 5 (.int .u8 0) 1 rfl Tryd.underlying47 info5 rfl (by decide) (.slice (some ⟨w5.heap.size + 1, 0, none⟩) 0 0) [] I Ai I.length ci (fun _ => True) rfl (by first | (go_simp; done) | (go_simp; rfl)) (fun _ _ => trivial) HO5.out HC5.out HB5A.out HB5A.out.size (by first | omega | (simp only [List.length_nil]; omega)) ?_; intro v8 w8 ho8 hb8 hg8 hat8; have HO8 := Aside0.mk ho8; have HB8 := Aside0.mk hb8; have ho8 : (Kd.int .u8).R 5 w8 w3.heap.size (fun _ => True) v8 I := ho8; have HO8 := Aside0.mk ho8; obtain ⟨A8, c8, hv8⟩ := Kd.R_slice ho8; subst hv8; clear ho8 hb8 hg8 hat8) | (refine Kd.R_append_row (w0 := w3) (Value.int .u8) 0 (h1 := fun _ => rfl) w3.heap.size rfl (.tmp 92) (.tmp 93) 47 5 (.int .u8 0) 1 rfl Tryd.underlying47 info5 rfl (by decide) (.slice A8 I.length c8) I ms B ms.length cb (fun _ => True) rfl (by first | (go_simp; done) | (go_simp; rfl)) (fun _ _ => trivial) HO8.out (HC8.out _ HB8.out) HB8.out HB8.out.size (by first | omega | (simp only [List.length_nil]; omega)) ?_; intro v9 w9 ho9 hb9 hg9 hat9; have HO9 := Aside0.mk ho9; have HB9 := Aside0.mk hb9; have ho9 : (Kd.int .u8).R 5 w9 w3.heap.size (fun _ => True) v9 (I ++ ms) := ho9; have HO9 := Aside0.mk ho9; obtain ⟨A9, c9, hv9⟩ := Kd.R_slice ho9; subst hv9; clear ho9 hb9 hg9 hat9))
            have HR9 := Aside0.mk (more_read HII.out HFT.out HRT.out HIB.out HMB.out hlen hbig HO9.out (HT.out.below (below_step HB3.out.bel HB9.out)))
            by_cases hms : ms = []
            · subst hms
              refine (HR9.out.1 rfl).mono ?_
              rintro en w10 ⟨u, rfl, hb10⟩
              have HB10 := Aside0.mk (below_step HB9.out hb10)
              clear hb10 HR9
              go_wp2_with (go_at_call 12; refine (num_is _ _).mono ?_; rintro en w' ⟨rfl, rfl⟩)
              go_ret
              exact ⟨rfl, below_step HB3.out.bel HB10.out⟩
            · have hml0 : ¬ ((ms.length : Int) = 0) := by
                intro h
                exact hms (List.length_eq_zero_iff.1 (by omega))
              refine (HR9.out.2 hms).mono ?_
              rintro en w10 ⟨rfl, hb10⟩
              have HB10 := Aside0.mk (below_step HB9.out hb10)
              clear hb10 HR9
              go_wp2_with (go_at_call 12; refine (num_is _ _).mono ?_; rintro en w' ⟨rfl, rfl⟩)
              go_ret
              exact ⟨rfl, below_step HB3.out.bel HB10.out⟩
          · have HB4A := Aside0.mk (below_alloc (Below.refl w3.heap.size w3) (.cells #[] 5))
            have HO4 := Aside0.mk (empty_row w3 w3.heap.size (Nat.le_refl _))
            have HC4 := Aside0.mk (Kd.C_below HIM.out HB4A.out)
            go_wp2_with (first | (go_at_call 12; refine (num_is _ _).mono ?_; rintro en w' ⟨rfl, rfl⟩) | (refine Kd.R_append_row (w0 := w3) (Value.int .u8) 0 (h1 := fun _ => rfl) w3.heap.size rfl (.tmp 53) (.tmp 54) 47 5 (.int .u8 0) 1 rfl Tryd.underlying47 info5 rfl (by decide) (.slice (some ⟨w3.heap.size, 0, none⟩) 0 0) [] I Ai I.length ci (fun _ => True) rfl (by first | (go_simp; done) | (go_simp; rfl)) (fun _ _ => trivial) HO4.out HC4.out HB4A.out HB4A.out.size (by first | omega | (simp only [List.length_nil]; omega)) ?_; intro v6 w6 ho6 hb6 hg6 hat6; have HO6 := Aside0.mk ho6; have HB6 := Aside0.mk hb6; have ho6 : (Kd.int .u8).R 5 w6 w3.heap.size (fun _ => True) v6 I := ho6; obtain ⟨g6, c6, hv6, hgb6, hgl6⟩ := R_form ho6 (by omega); subst hv6; clear hb6 hg6 hat6; obtain ⟨y0, hy0, hcell6, hfz6⟩ := row_at ho6 hn; have HY0 := Aside0.mk hy0; clear ho6 hy0))
            have HR7 := Aside0.mk (torn_read (x := x) HII.out HIB.out hlen hn HO6.out HY0.out hx hx0 (HT.out.below (below_step HB3.out.bel (below_set HB6.out hgb6))))
            refine HR7.out.mono ?_
            rintro en w7 ⟨q, code, rfl, hcode, hb7⟩
            have HB7 := Aside0.mk (below_step (below_set HB6.out hgb6) hb7)
            have hcode0 : ¬ (code = 0) := by omega
            clear hb7 HR7 hcell6 hfz6
            have HCR := Aside0.mk (fun (w' : World) (hb : Below w3.heap.size w3 w') => cut_read HII.out HFT.out hn hli hlen (Kd.C_below HIM.out hb) (HT.out.below (below_step HB3.out.bel hb)))
            have hcut := cut_is (A := Ai) (c := ci) (l := I) n (Nat.le_of_lt hn) hli
            go_wp2_with (go_at_call 12; refine (num_is _ _).mono ?_; rintro en w' ⟨rfl, rfl⟩)
            refine (HCR.out _ (below_alloc HB7.out _)).mono ?_
            rintro en w5 ⟨hb5, rfl⟩
            have HB5 := Aside0.mk (below_step (below_alloc HB7.out _) hb5)
            clear hb5 HCR hcut
            have HB5A := Aside0.mk (below_alloc (below_alloc HB5.out (.cells Z6 27)) (.cells #[] 5))
            have HO5 := Aside0.mk (empty_row ((w5.alloc (.cells Z6 27))) w3.heap.size (Nat.le_trans HB5.out.size (by simp)))
            have HC5 := Aside0.mk (Kd.C_below HIM.out HB5A.out)
            rw [show (w5.alloc (.cells Z6 27)).heap.size = w5.heap.size + 1 by simp] at HO5
            have HC8 := Aside0.mk (fun (w' : World) (hb : Below w3.heap.size w3 w') => Kd.C_below HMC.out (below_step HB3.out.bel hb))
            go_wp2_with (first | (go_at_call 12; refine (num_is _ _).mono ?_; rintro en w' ⟨rfl, rfl⟩) | (refine Kd.R_append_row (w0 := w3) (Value.int .u8) 0 (h1 := fun _ => rfl) w3.heap.size rfl (.tmp 90) (.tmp 91) 47 5 (.int .u8 0) 1 rfl Tryd.underlying47 info5 rfl (by decide) (.slice (some ⟨w5.heap.size + 1, 0, none⟩) 0 0) [] I Ai I.length ci (fun _ => True) rfl (by first | (go_simp; done) | (go_simp; rfl)) (fun _ _ => trivial) HO5.out HC5.out HB5A.out HB5A.out.size (by first | omega | (simp only [List.length_nil]; omega)) ?_; intro v8 w8 ho8 hb8 hg8 hat8; have HO8 := Aside0.mk ho8; have HB8 := Aside0.mk hb8; have ho8 : (Kd.int .u8).R 5 w8 w3.heap.size (fun _ => True) v8 I := ho8; have HO8 := Aside0.mk ho8; obtain ⟨A8, c8, hv8⟩ := Kd.R_slice ho8; subst hv8; clear ho8 hb8 hg8 hat8) | (refine Kd.R_append_row (w0 := w3) (Value.int .u8) 0 (h1 := fun _ => rfl) w3.heap.size rfl (.tmp 92) (.tmp 93) 47 5 (.int .u8 0) 1 rfl Tryd.underlying47 info5 rfl (by decide) (.slice A8 I.length c8) I ms B ms.length cb (fun _ => True) rfl (by first | (go_simp; done) | (go_simp; rfl)) (fun _ _ => trivial) HO8.out (HC8.out _ HB8.out) HB8.out HB8.out.size (by first | omega | (simp only [List.length_nil]; omega)) ?_; intro v9 w9 ho9 hb9 hg9 hat9; have HO9 := Aside0.mk ho9; have HB9 := Aside0.mk hb9; have ho9 : (Kd.int .u8).R 5 w9 w3.heap.size (fun _ => True) v9 (I ++ ms) := ho9; have HO9 := Aside0.mk ho9; obtain ⟨A9, c9, hv9⟩ := Kd.R_slice ho9; subst hv9; clear ho9 hb9 hg9 hat9))
            have HR9 := Aside0.mk (more_read HII.out HFT.out HRT.out HIB.out HMB.out hlen hbig HO9.out (HT.out.below (below_step HB3.out.bel HB9.out)))
            by_cases hms : ms = []
            · subst hms
              refine (HR9.out.1 rfl).mono ?_
              rintro en w10 ⟨u, rfl, hb10⟩
              have HB10 := Aside0.mk (below_step HB9.out hb10)
              clear hb10 HR9
              go_wp2_with (go_at_call 12; refine (num_is _ _).mono ?_; rintro en w' ⟨rfl, rfl⟩)
              go_ret
              exact ⟨rfl, below_step HB3.out.bel HB10.out⟩
            · have hml0 : ¬ ((ms.length : Int) = 0) := by
                intro h
                exact hms (List.length_eq_zero_iff.1 (by omega))
              refine (HR9.out.2 hms).mono ?_
              rintro en w10 ⟨rfl, hb10⟩
              have HB10 := Aside0.mk (below_step HB9.out hb10)
              clear hb10 HR9
              go_wp2_with (go_at_call 12; refine (num_is _ _).mono ?_; rintro en w' ⟨rfl, rfl⟩)
              go_ret
              exact ⟨rfl, below_step HB3.out.bel HB10.out⟩
end Go.Proofs.YtihjjkoddphmiaaDoor.img
