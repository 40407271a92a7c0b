/-
  The walks of middenref16's number and ints by hand.
-/
import Derived.Test.YtihjjkoddphmiaaGreatDoorNIm5
import Derived.Test.YtihjjkoddphmiaaGreatDoorNSmG
namespace Go.Proofs.YtihjjkoddphmiaaGreatDoor.img
open Go.RowKit Go.Proofs.YtihjjkoddphmiaaGreatDoorW.PrintWords Go.Proofs.YtihjjkoddphmiaaGreatDoorW.PrintLast Go.Proofs.YtihjjkoddphmiaaGreatDoorW.PrintMore Go.Proofs.YtihjjkoddphmiaaGreatDoor.PImageApart
set_option linter.unusedVariables false
set_option linter.unusedSimpArgs false

/-- Bytes that are laid on since w0. -/
structure Bw (w0 : World) (v : Value) (bs : List Int) (w : World) : Prop where
 bel : Below w0.heap.size w0 w
 row : (Kd.int .u8).R 5 w w0.heap.size (fun _ => True) v bs
/-- What is no row of bytes stays. -/
structure KP (w w1 : World) : Prop where
 size : w.heap.size ≤ w1.heap.size
 keep : ∀ (k t : Nat) (cs : Array Value), t ≠ 5 → w.heap[k]? = some (.cells cs t (0, 0)) → w1.heap[k]? = some (.cells cs t (0, 0))
theorem KP.refl (w : World) : KP w w := ⟨Nat.le_refl _, fun _ _ _ _ h => h⟩
theorem KP.trans {w w1 w2 : World} (h : KP w w1) (h1 : KP w1 w2) : KP w w2 := ⟨Nat.le_trans h.size h1.size, fun k t cs ht hc => h1.keep k t cs ht (h.keep k t cs ht hc)⟩
theorem Bw.after {w0 w w1 : World} {v : Value} {bs : List Int} (h : Bw w0 v bs w) (hb : Below w.heap.size w w1) : Bw w0 v bs w1 := ⟨below_step h.bel hb, Kd.R_below h.row hb⟩
theorem Bw.append {P : Program} {ops : Array Oper} {rest : List Oper} {o : Oper} {a : Act} {Q : Exit → Act → World → Prop} {w0 W : World} (hgd : o.guard = none) (s x : Operand)
  (ho : o.op = .call { callee := .builtin .append, args := #[s, x], argTypes := #[40, 40] })
  (ht : P.underlying 40 = some (.slice 5)) (hinfo : (P.info? 5).map (fun i => (i.zero, i.size, i.bytes)) = some (some (.int .u8 0), 1, 1))
  (v : Value) (xs : List Int) (p : Int) (hs : a.eval s = v) (hx : a.eval x = .slice (some ⟨W.heap.size, 0, none⟩) 1 1)
  (H : Bw w0 v xs W) (hl : xs.length ≤ 1000000000011)
  (h : ∀ v1 w1, Bw w0 v1 (xs ++ [p]) w1 → KP W w1 → wpList P ops Q rest (a.put o.dst v1) w1) :
  wpList P ops Q (o :: rest) a (W.alloc (.cells #[.int .u8 p] 5)) :=
 Kd.R_append (Kd.int .u8) (w0 := w0) w0.heap.size hgd s x 40 5 (.int .u8 0) 1 ho ht hinfo rfl (by decide) (by omega) v xs p [.int .u8 p] (fun _ => True) (fun _ => False) hs hx rfl (fun _ hk => hk.elim) (fun _ _ => trivial) H.row H.bel H.bel.size (by omega)
  (fun v1 w1 h1 h2 h3 _ => h v1 w1 ⟨h2, h1⟩ ⟨h3.size, fun k t cs hk hc => blk_grown hc h3 (Kd.R_ne H.row hc (fun e => hk e.symm))⟩)

set_option maxHeartbeats 8000000 in
set_option maxRecDepth 100000 in
theorem bnumber {w0 w : World} {v : Value} {bs : List Int} (n : Nat) (hn : n < 18446744073709551616) (hbs : bs.length ≤ 1000000000000) (h : Bw w0 v bs w) :
  Calls Tryz.prog 35 #[v, .int .u64 n] w fun e w' => ∃ v', e = .returned v' ∧ Bw w0 v' (bs ++ enc n) w' ∧ KP w w' := by
 have H := Aside0.mk h
 have HKP := Aside0.mk (KP.refl w)
 obtain ⟨res, hres⟩ : ∃ res, bs ++ enc n = res := ⟨_, rfl⟩
 have hrl : res.length ≤ 1000000000010 := by rw [← hres, List.length_append]; have := enc_ten hn; omega
 rw [hres]
 have HRES := Aside0.mk hres
 clear h hres
 go_enter Tryz.func35, Tryz.ntmps35
 go_wp2_with (fail)
 go_loopw [0, 1] (fun u m wr => ∃ (k : Nat) (us : List Int), m = .int .u64 k ∧ k < 18446744073709551616 ∧ Aside0 (us ++ enc k = res) ∧ Aside0 (Bw w0 u us wr) ∧ Aside0 (KP w wr)) (fun _ m _ => (intOf m).toNat)
 case atStart => exact ⟨n, bs, rfl, hn, HRES, H, HKP⟩
 case round =>
  clear H HKP HRES
  obtain ⟨k, us, rfl, hk, HRES, H, HKP⟩ := hrel
  have hul : us.length ≤ 1000000000011 := by
   have e := congrArg List.length HRES.out
   rw [List.length_append] at e
   omega
  obtain ⟨A, c, rfl⟩ := Kd.R_slice H.out.row
  by_cases hlt : k < 128
  ·have p1 : ¬ (128 : Int) ≤ (k : Int) := by omega
   have p2 : (k : Int) % 256 = k := by omega
   have HE : Aside0 (us ++ [(k : Int)] = res) := ⟨by have := HRES.out; rw [enc_lt hlt] at this; exact this⟩
   go_wp2_with (refine Bw.append rfl (.tmp 16) (.tmp 19) rfl Tryz.underlying40 info5 (.slice A us.length c) us (k : Int) rfl (by first | (go_simp; done) | (go_simp; rfl)) H.out hul ?_; intro v1 w3 hv hp; have HV := Aside0.mk hv; have HP := Aside0.mk hp; clear hv hp)
   go_ret
   exact ⟨_, rfl, by rw [← HE.out]; exact HV.out, HKP.out.trans HP.out⟩
  ·have p1 : (128 : Int) ≤ (k : Int) := by omega
   have e1 : Int.tmod (k : Int) 128 = ((k % 128 : Nat) : Int) := by rw [Int.tmod_eq_emod_of_nonneg (by omega)]; omega
   have e2 : Int.tdiv (k : Int) 128 = ((k / 128 : Nat) : Int) := by rw [Int.tdiv_eq_ediv_of_nonneg (by omega)]; omega
   have HE : Aside0 ((us ++ [128 + (k : Int) % 128]) ++ enc (k / 128) = res) := ⟨by have := HRES.out; rw [enc_ge hlt, show ((k % 128 + 128 : Nat) : Int) = 128 + (k : Int) % 128 by omega] at this; simpa using this⟩
   have HK2 : Aside0 (k / 128 < 18446744073709551616 ∧ k / 128 < k) := ⟨by omega⟩
   clear hlt
   go_wp2_with (refine Bw.append rfl (.tmp 7) (.tmp 12) rfl Tryz.underlying40 info5 (.slice A us.length c) us (128 + (k : Int) % 128) rfl (by first | (go_simp; done) | (go_simp; rfl)) H.out hul ?_; intro v1 w3 hv hp; have HV := Aside0.mk hv; have HP := Aside0.mk hp; clear hv hp)
   go_roundw
   case rel => exact ⟨k / 128, us ++ [128 + (k : Int) % 128], by go_num, HK2.out.1, HE, HV, ⟨HKP.out.trans HP.out⟩⟩
   case measure => simp [intOf]; exact HK2.out.2
theorem flat_drop {α : Type} (f : α → List Int) (l : List α) (i : Nat) (z : α) (h : i < l.length) : (l.drop i).flatMap f = f (l.getD i z) ++ (l.drop (i + 1)).flatMap f := by
 rw [drop_get l i z h, List.flatMap_cons]
set_option maxHeartbeats 8000000 in
set_option maxRecDepth 100000 in
theorem bints {w0 w : World} {v : Value} {bs : List Int} (A : Option Addr) (c : Nat) (l : List Int) (more : Int) (hm : 0 ≤ more ∧ more ≤ 1) (hl : l.length ≤ 1000000) (hx : ∀ x ∈ l, 0 ≤ x + more ∧ x + more ≤ 4611686018427387905) (hbs : (bs ++ encL (encI more) l).length ≤ 1000000000000) (hC : (Kd.int .i64).C w0 A l.length l) (h : Bw w0 v bs w) :
  Calls Tryz.prog 36 #[v, .slice A l.length c, .int .i64 more] w fun e w' => ∃ v', e = .returned v' ∧ Bw w0 v' (bs ++ encL (encI more) l) w' ∧ KP w w' := by
 obtain ⟨res, hres⟩ : ∃ res, bs ++ encL (encI more) l = res := ⟨_, rfl⟩
 rw [hres] at hbs ⊢
 have HN := Aside0.mk (bnumber l.length (by omega) (by rw [← hres, List.length_append] at hbs; omega) h)
 have HC := Aside0.mk hC
 have HX := Aside0.mk hx
 have HRES : Aside0 ((bs ++ enc l.length) ++ (l.drop 0).flatMap (encI more) = res) := ⟨by rw [List.append_assoc]; exact hres⟩
 clear h hres hC hx
 go_enter Tryz.func36, Tryz.ntmps36
 go_wp2_with (fail)
 refine HN.out.mono ?_
 rintro en w1 ⟨v1, rfl, hb1, hk1⟩
 have H := Aside0.mk hb1
 have HKP := Aside0.mk hk1
 clear HN hb1 hk1
 go_wp2_with (fail)
 go_loopw [0, 7] (fun u i wr => ∃ (k : Nat) (us : List Int), i = .int .i64 k ∧ k ≤ l.length ∧ Aside0 (us ++ (l.drop k).flatMap (encI more) = res) ∧ Aside0 (Bw w0 u us wr) ∧ Aside0 (KP w wr)) (fun _ i _ => l.length - (intOf i).toNat)
 case atStart => exact ⟨0, _, rfl, Nat.zero_le _, HRES, H, HKP⟩
 case round =>
  clear H HKP HRES
  obtain ⟨k, us, rfl, hk, HRES, H, HKP⟩ := hrel
  by_cases hlt : k < l.length
  ·have p1 : (k : Int) < (l.length : Int) := by omega
   obtain ⟨ad, rfl, h1⟩ := num_at (Kd.C_below HC.out H.out.bel) hlt
   obtain ⟨hx0, hx1⟩ := HX.out _ (get_mem (d := 0) hlt)
   rw [flat_drop (encI more) l k 0 hlt, ← List.append_assoc] at HRES
   generalize l.getD k 0 = x at h1 hx0 hx1 HRES
   have hul : us.length ≤ 1000000000000 := by
    have e := congrArg List.length HRES.out
    simp only [List.length_append] at e
    omega
   obtain ⟨y, hy⟩ : ∃ y, (x + more).toNat = y := ⟨_, rfl⟩
   have hxy : IntKind.i64.wrap (x + more) = (y : Int) := by rw [IntKind.wrap_i64]; omega
   have hy2 : y < 18446744073709551616 := by omega
   rw [encI, hy] at HRES
   have HN := Aside0.mk (bnumber y hy2 hul H.out)
   clear hy hul
   go_wp2_with (fail)
   refine HN.out.mono ?_
   rintro en w2 ⟨v2, rfl, hb2, hk2⟩
   have H2 := Aside0.mk hb2
   have HK2 : Aside0 (KP w w2) := ⟨HKP.out.trans hk2⟩
   clear HN hb2 hk2
   go_wp2_with (fail)
   go_roundw
   case rel => exact ⟨k + 1, _, by go_num, by omega, HRES, H2, HK2⟩
   case measure => simp [intOf]; omega
  ·have p1 : ¬ (k : Int) < (l.length : Int) := by omega
   have HE : Aside0 (us = res) := ⟨by have := HRES.out; rw [List.drop_eq_nil_of_le (by omega)] at this; simpa using this⟩
   go_wp2_with (fail)
   go_ret
   exact ⟨_, rfl, by rw [← HE.out]; exact H.out, HKP.out⟩
theorem wrapu {x : Int} (h : 0 ≤ x ∧ x < 18446744073709551616) : IntKind.u64.wrap x = x := by rw [IntKind.wrap_u64]; omega
theorem xor_u64 (a b : Nat) (ha : a < 4294967296) (hb : b < 4294967296) : bits BinOp.xor IntKind.u64 (a : Int) (b : Int) = ((a ^^^ b : Nat) : Int) := by
 have hlt : a ^^^ b < 4294967296 := by
  have : (4294967296 : Nat) = 2 ^ 32 := by decide
  rw [this] at ha hb ⊢
  exact Nat.xor_lt_two_pow ha hb
 unfold bits
 have e32 : IntKind.u64.bits = 64 := rfl
 have h : ((BitVec.ofInt IntKind.u64.bits (a : Int)) ^^^ (BitVec.ofInt IntKind.u64.bits (b : Int))).toNat = a ^^^ b := by
  rw [BitVec.toNat_xor]
  simp only [BitVec.toNat_ofInt, e32]
  have e1 : ((a : Int) % ((2 ^ 64 : Nat) : Int)).toNat = a := by
   have : ((2 ^ 64 : Nat) : Int) = 18446744073709551616 := by decide
   rw [this]
   omega
  have e2 : ((b : Int) % ((2 ^ 64 : Nat) : Int)).toNat = b := by
   have : ((2 ^ 64 : Nat) : Int) = 18446744073709551616 := by decide
   rw [this]
   omega
  rw [e1, e2]
 simp only [h]
 exact wrapu (by omega)
set_option maxHeartbeats 8000000 in
set_option maxRecDepth 100000 in
theorem bsum (A : Option Addr) (c : Nat) (l : List Int) (hb : Bytes l) (hl : l.length ≤ 1000000000000) (w : World) (hC : (Kd.int .u8).C w A l.length l) :
  Calls Tryz.prog 21 #[.slice A l.length c] w fun e w' => e = .returned (.int .u32 ((fnv l : Nat) : Int)) ∧ Below w.heap.size w w' := by
 have HC := Aside0.mk hC
 have HY := Aside0.mk hb
 have HX := Aside0.mk (Below.refl w.heap.size w)
 have HE : Aside0 (fnvFrom 2166136261 (l.drop 0) = fnv l) := ⟨rfl⟩
 clear hC hb
 go_enter Tryz.func21, Tryz.ntmps21
 go_wp2_with (fail)
 go_loopw [3, 4] (fun a i wr => ∃ s k : Nat, s < 4294967296 ∧ k ≤ l.length ∧ a = .int .u64 s ∧ i = .int .i64 k ∧ Aside0 (fnvFrom s (l.drop k) = fnv l) ∧ Aside0 (Below w.heap.size w wr)) (fun _ i _ => l.length - (intOf i).toNat)
 case atStart => exact ⟨2166136261, 0, by decide, Nat.zero_le _, rfl, rfl, HE, HX⟩
 case round =>
  clear HE HX
  obtain ⟨s, k, hs, hk, rfl, rfl, HE, HX⟩ := hrel
  by_cases hlt : k < l.length
  ·have p1 : (k : Int) < (l.length : Int) := by omega
   obtain ⟨ad, rfl, h1⟩ := num_at (Kd.C_below HC.out HX.out) hlt
   obtain ⟨e1, e0⟩ := byte_at HY.out hlt
   rw [drop_get l k 0 hlt] at HE
   generalize l.getD k 0 = x at h1 e0 e1 HE
   obtain ⟨y, hy⟩ : ∃ y, x.toNat = y := ⟨_, rfl⟩
   rw [hy] at e0 e1
   subst e1
   have e2 := xor_u64 s y hs (by omega)
   have e3 : s ^^^ y < 4294967296 := xor_lt hs (by omega)
   obtain ⟨z, hz⟩ : ∃ z, s ^^^ y = z := ⟨_, rfl⟩
   rw [hz] at e2 e3
   have HF : Aside0 (fnvFrom (z * 16777619 % 4294967296) (l.drop (k + 1)) = fnv l) := ⟨by rw [← hz, ← HE.out]; simp [fnvFrom, fstep]⟩
   clear HE hz hy
   go_wp2_with (fail)
   go_roundw
   case rel => exact ⟨z * 16777619 % 4294967296, k + 1, Nat.mod_lt _ (by decide), by omega, by go_num, by go_num, HF, HX⟩
   case measure => simp [intOf]; omega
  ·have p1 : ¬ (k : Int) < (l.length : Int) := by omega
   rw [List.drop_eq_nil_of_le (by omega)] at HE
   go_wp2_with (fail)
   go_ret
   exact ⟨by rw [← HE.out]; rfl, HX.out⟩
end Go.Proofs.YtihjjkoddphmiaaGreatDoor.img
