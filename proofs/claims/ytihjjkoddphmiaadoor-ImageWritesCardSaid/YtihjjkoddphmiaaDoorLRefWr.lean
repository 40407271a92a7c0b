/-
  The reference's Write in plain Lean: it comes to the graph's image.
-/
import Derived.Test.YtihjjkoddphmiaaDoorLRefWrite
import Derived.Test.YtihjjkoddphmiaaDoorLIm5
namespace Go.Proofs.YtihjjkoddphmiaaDoor.img
open Go.RowKit Go.Proofs.YtihjjkoddphmiaaDoorW.PrintWords Go.Proofs.YtihjjkoddphmiaaDoorW.PrintLast Go.Proofs.YtihjjkoddphmiaaDoorW.PrintMore Go.Proofs.YtihjjkoddphmiaaDoor.PImageRound
set_option linter.unusedVariables false
set_option linter.unusedSimpArgs false

theorem mem_at {α : Type} {l : List α} {i : Nat} (d : α) (h : i < l.length) : l.getD i d ∈ l := by
  rw [List.getD_eq_getElem?_getD, List.getElem?_eq_getElem h]
  exact List.getElem_mem h
theorem wrapu {x : Int} (h : 0 ≤ x ∧ x < 18446744073709551616) : IntKind.u64.wrap x = x := by rw [IntKind.wrap_u64]; omega
theorem rnumber_l (n : Nat) : ∀ (xs : List Int), n < 18446744073709551616 → xs.length + (enc n).length ≤ 100000000000000 → Ev (fun k => middenref16_number.l0 k xs (n : Int)) (xs ++ enc n) := by
  induction n using Nat.strongRecOn with
  | ind n ih =>
    intro xs hn hl
    by_cases h : n < 128
    · rw [enc_lt h] at hl ⊢
      refine Ev.step (f := fun _ => some (xs ++ [(n : Int)])) (fun k => ?_) (Ev.now _)
      simp only [middenref16_number.l0]
      rw [if_neg (by omega), if_pos (by omega), show (n : Int) % 256 = n by omega]
    · rw [enc_ge h] at hl ⊢
      rw [List.length_cons] at hl
      have := ih (n / 128) (by omega) (xs ++ [((n % 128 + 128 : Nat) : Int)]) (by omega) (by simp; omega)
      rw [List.append_assoc] at this
      refine Ev.step (fun k => ?_) this
      simp only [middenref16_number.l0]
      have e1 : Int.tmod (n : Int) 128 = ((n % 128 : Nat) : Int) := by rw [Int.tmod_eq_emod_of_nonneg (by omega)]; omega
      have e2 : Int.tdiv (n : Int) 128 = ((n / 128 : Nat) : Int) := by rw [Int.tdiv_eq_ediv_of_nonneg (by omega)]; omega
      rw [if_pos (by omega), if_pos (by omega), e1, e2, wrapu (by omega), wrapu (by omega), show (128 + ((n % 128 : Nat) : Int)) % 256 = ((n % 128 + 128 : Nat) : Int) by omega]
theorem rnumber_ev (xs : List Int) (a : Int) (n : Nat) (ha : a = n) (hn : n < 18446744073709551616) (hl : xs.length + (enc n).length ≤ 100000000000000) : Ev (fun k => middenref16_number.f k xs a) (xs ++ enc n) := by
  subst ha
  exact rnumber_l n xs hn hl
theorem rints_l (l : List Int) (more : Int) (hm : 0 ≤ more ∧ more ≤ 1) (hl : l.length ≤ 1000000) (hx : ∀ x ∈ l, 0 ≤ x + more ∧ x + more ≤ 4611686018427387905) : ∀ (d i : Nat) (xs : List Int), l.length - i = d → i ≤ l.length → xs.length + ((l.drop i).flatMap (encI more)).length ≤ 100000000000000 → Ev (fun k => middenref16_ints.l0 k xs l more (i : Int)) (xs ++ (l.drop i).flatMap (encI more)) := by
  intro d
  induction d with
  | zero =>
    intro i xs hd hi _
    have e : i = l.length := by omega
    subst e
    refine Ev.step (f := fun _ => some xs) (fun k => ?_) (by simpa using Ev.now xs)
    simp only [middenref16_ints.l0]
    rw [if_neg (by omega)]
  | succ d ih =>
    intro i xs hd hi hb
    have hlt : i < l.length := by omega
    rw [drop_get l i 0 hlt, List.flatMap_cons] at hb ⊢
    rw [List.length_append] at hb
    have hrd : rd l (i : Int) = l.getD i 0 := by simp [rd]
    have hin := hx _ (mem_at 0 hlt)
    have := ih (i + 1) (xs ++ encI more (l.getD i 0)) (by omega) (by omega) (by rw [List.length_append]; omega)
    rw [List.append_assoc] at this
    have h1 := (rnumber_ev xs (l.getD i 0 + more) (l.getD i 0 + more).toNat (by omega) (by omega) (by unfold encI at hb; omega)).bind (f := fun k t => middenref16_ints.l0 k t l more ((i + 1 : Nat) : Int)) this
    refine Ev.step (fun k => ?_) h1
    simp only [middenref16_ints.l0]
    rw [if_pos (by omega), if_pos (by omega), hrd, wrap_small (by omega), wrap_small (by omega), wrapu (by omega)]
    rfl
theorem rints_ev (xs l : List Int) (more : Int) (hm : 0 ≤ more ∧ more ≤ 1) (hl : l.length ≤ 1000000) (hx : ∀ x ∈ l, 0 ≤ x + more ∧ x + more ≤ 4611686018427387905) (hb : xs.length + (encL (encI more) l).length ≤ 100000000000000) : Ev (fun k => middenref16_ints.f k xs l more) (xs ++ encL (encI more) l) := by
  unfold encL at hb ⊢
  rw [List.length_append] at hb
  have h2 := rints_l l more hm hl hx l.length 0 (xs ++ enc l.length) (by omega) (by omega) (by rw [List.length_append, List.drop_zero]; omega)
  rw [List.append_assoc, List.drop_zero] at h2
  refine Ev.congr (fun k => ?_) ((rnumber_ev xs (l.length : Int) l.length rfl (by omega) (by omega)).bind (f := fun k t => middenref16_ints.l0 k t l more (0 : Int)) h2)
  unfold middenref16_ints.f
  rw [wrapu (by omega)]
theorem xor_u64 (a b : Nat) (ha : a < 4294967296) (hb : b < 4294967296) : bits BinOp.xor IntKind.u64 (a : Int) (b : Int) = ((a ^^^ b : Nat) : Int) := by
  have hlt : a ^^^ b < 4294967296 := by
    have : (4294967296 : Nat) = 2 ^ 32 := by decide
    rw [this] at ha hb ⊢
    exact Nat.xor_lt_two_pow ha hb
  unfold bits
  have e32 : IntKind.u64.bits = 64 := rfl
  have h : ((BitVec.ofInt IntKind.u64.bits (a : Int)) ^^^ (BitVec.ofInt IntKind.u64.bits (b : Int))).toNat = a ^^^ b := by
    rw [BitVec.toNat_xor]
    simp only [BitVec.toNat_ofInt, e32]
    have e1 : ((a : Int) % ((2 ^ 64 : Nat) : Int)).toNat = a := by
      have : ((2 ^ 64 : Nat) : Int) = 18446744073709551616 := by decide
      rw [this]
      omega
    have e2 : ((b : Int) % ((2 ^ 64 : Nat) : Int)).toNat = b := by
      have : ((2 ^ 64 : Nat) : Int) = 18446744073709551616 := by decide
      rw [this]
      omega
    rw [e1, e2]
  simp only [h]
  exact wrapu (by omega)
theorem rsum_l (l : List Int) (hb : Bytes l) (hl : l.length ≤ 1000000000000) : ∀ (d i s : Nat), l.length - i = d → i ≤ l.length → s < 4294967296 → Ev (fun k => middenref16_Sum.l0 k l (s : Int) (i : Int)) ((fnvFrom s (l.drop i) : Nat) : Int) := by
  intro d
  induction d with
  | zero =>
    intro i s hd hi hs
    have e : i = l.length := by omega
    subst e
    refine Ev.step (f := fun _ => some (s : Int)) (fun k => ?_) (by simpa [fnvFrom] using Ev.now (s : Int))
    simp only [middenref16_Sum.l0]
    rw [if_neg (by omega), show (s : Int) % 4294967296 = s by omega]
  | succ d ih =>
    intro i s hd hi hs
    have hlt : i < l.length := by omega
    rw [drop_get l i 0 hlt]
    have hrd : rd l (i : Int) = l.getD i 0 := by simp [rd]
    obtain ⟨hx, hc⟩ := byte_at hb hlt
    have hf : fnvFrom s (l.getD i 0 :: l.drop (i + 1)) = fnvFrom (fstep s (l.getD i 0).toNat) (l.drop (i + 1)) := rfl
    rw [hf]
    have := ih (i + 1) (fstep s (l.getD i 0).toNat) (by omega) (by omega) (fstep_lt _ _)
    refine Ev.step (fun k => ?_) this
    simp only [middenref16_Sum.l0]
    rw [if_pos (by omega), if_pos (by omega), hrd, wrap_small (by omega), wrapu (x := l.getD i 0) (by omega)]
    have e1 : l.getD i 0 = (((l.getD i 0).toNat : Nat) : Int) := by omega
    have e2 : bits BinOp.xor IntKind.u64 (s : Int) (l.getD i 0) = ((s ^^^ (l.getD i 0).toNat : Nat) : Int) := by rw [e1, xor_u64 s _ hs (by omega)]; rfl
    have hx2 : s ^^^ (l.getD i 0).toNat < 4294967296 := xor_lt hs (by omega)
    rw [e2, wrapu (by omega), Int.tmod_eq_emod_of_nonneg (by omega)]
    have e3 : ((s ^^^ (l.getD i 0).toNat : Nat) : Int) * 16777619 % 4294967296 = ((fstep s (l.getD i 0).toNat : Nat) : Int) := by unfold fstep; simp
    rw [e3]
    rfl
theorem rsum_ev (l : List Int) (hb : Bytes l) (hl : l.length ≤ 1000000000000) : Ev (fun k => middenref16_Sum.f k l) ((fnv l : Nat) : Int) := by
  have := rsum_l l hb hl l.length 0 2166136261 (by omega) (by omega) (by omega)
  simpa [middenref16_Sum.f, fnv, fnvFrom] using this

section
variable {a0 : List S62} {a1 : List (List (List Int))} {a2 a3 a4 : List Int} {a5 : Int}
theorem rwraws_l {R : List Int × Int} (l : List Int) (hl : l.length ≤ 1000000) (hx : ∀ x ∈ l, 0 ≤ x ∧ x < 18446744073709551616) (last : Int) (j : Int) (u0 u1 u2 : Int) (u3 : List Int) : ∀ (d i : Nat) (xs : List Int), l.length - i = d → i ≤ l.length → xs.length + ((l.drop i).flatMap (encI 0)).length ≤ 100000000000000 →
    Ev (fun k => middenref16_Write.l0 k (xs ++ (l.drop i).flatMap (encI 0)) last (wrap64 (j + 1)) a0 a1 a2 a3 a4 a5) R → Ev (fun k => middenref16_Write.l1 k xs last j (i : Int) a0 a1 a2 a3 a4 a5 u0 u1 u2 u3 l) R := by
  intro d
  induction d with
  | zero =>
    intro i xs hd hi _ hk
    have e : i = l.length := by omega
    subst e
    simp only [List.drop_length, List.flatMap_nil, List.append_nil] at hk
    refine Ev.step (fun k => ?_) hk
    simp only [middenref16_Write.l1]
    rw [if_neg (by omega)]
  | succ d ih =>
    intro i xs hd hi hb hk
    have hlt : i < l.length := by omega
    rw [drop_get l i 0 hlt, List.flatMap_cons] at hb hk
    rw [List.length_append] at hb
    have hrd : rd l (i : Int) = l.getD i 0 := by simp [rd]
    have hin := hx _ (mem_at 0 hlt)
    have ei : encI 0 (l.getD i 0) = enc (l.getD i 0).toNat := by unfold encI; rw [Int.add_zero]
    rw [ei] at hb hk
    rw [← List.append_assoc] at hk
    have := ih (i + 1) (xs ++ enc (l.getD i 0).toNat) (by omega) (by omega) (by rw [List.length_append]; omega) hk
    have h1 := (rnumber_ev xs (l.getD i 0) (l.getD i 0).toNat (by omega) (by omega) (by omega)).bind (f := fun k t => middenref16_Write.l1 k t last j ((i + 1 : Nat) : Int) a0 a1 a2 a3 a4 a5 u0 u1 u2 u3 l) this
    refine Ev.step (fun k => ?_) h1
    simp only [middenref16_Write.l1]
    rw [if_pos (by omega), if_pos (by omega), hrd, wrap_small (by omega)]
    rfl
theorem rwobjs_l {R : List Int × Int} (hl : a0.length ≤ 1000000) (hs : a1.length ≤ 1000000) : ∀ (d i : Nat) (xs : List Int) (last : Int), a0.length - i = d → i ≤ a0.length → allS (fun _ o => o.f0) okW last (a0.drop i) → xs.length + (encOs last (a0.drop i) ++ enc a1.length).length ≤ 100000000000000 →
    Ev (fun k => middenref16_Write.l2 k (xs ++ (encOs last (a0.drop i) ++ enc a1.length)) 0 a0 a1 a2 a3 a4 a5) R → Ev (fun k => middenref16_Write.l0 k xs last (i : Int) a0 a1 a2 a3 a4 a5) R := by
  intro d
  induction d with
  | zero =>
    intro i xs last hd hi _ hb hk
    have e : i = a0.length := by omega
    subst e
    simp only [List.drop_length, encOs, List.nil_append] at hb hk
    refine Ev.step (fun k => ?_) ((rnumber_ev xs (a1.length : Int) a1.length rfl (by omega) hb).bind (f := fun k t => middenref16_Write.l2 k t 0 a0 a1 a2 a3 a4 a5) hk)
    simp only [middenref16_Write.l0]
    rw [if_neg (by omega), wrapu (by omega)]
  | succ d ih =>
    intro i xs last hd hi hok hb hk
    have hlt : i < a0.length := by omega
    rw [drop_get a0 i z62 hlt] at hok hb hk
    have hrd : rd_T62 a0 (i : Int) = a0.getD i z62 := by simp [rd_T62]
    obtain ⟨o, ho⟩ : ∃ o, a0.getD i z62 = o := ⟨_, rfl⟩
    rw [ho] at hok hb hk hrd
    obtain ⟨⟨⟨o1, o2, o3⟩, o4, o5, ⟨o6, o7⟩, o8, o9⟩, hok2⟩ := hok
    simp only [encOs, encO] at hb hk
    have f1 : encI 0 o.f1 = enc o.f1.toNat := by unfold encI; rw [Int.add_zero]
    have f2 : encI 0 o.f2 = enc o.f2.toNat := by unfold encI; rw [Int.add_zero]
    rw [f1, f2] at hb hk
    have f4 : encL (encI 0) o.f4 = enc o.f4.length ++ o.f4.flatMap (encI 0) := rfl
    rw [f4] at hb hk
    simp only [List.length_append] at hb
    simp only [← List.append_assoc] at hk
    have e6 := ih (i + 1) (xs ++ enc (o.f0 - last).toNat ++ enc o.f1.toNat ++ enc o.f2.toNat ++ encL (encI 0) o.f3 ++ enc o.f4.length ++ o.f4.flatMap (encI 0)) o.f0 (by omega) (by omega) hok2 (by simp only [List.length_append]; omega) (by simp only [← List.append_assoc]; exact hk)
    have e5 := rwraws_l (R := R) (a0 := a0) (a1 := a1) (a2 := a2) (a3 := a3) (a4 := a4) (a5 := a5) o.f4 o8 o9 o.f0 (i : Int) o.f0 o.f1 o.f2 o.f3 o.f4.length 0 (xs ++ enc (o.f0 - last).toNat ++ enc o.f1.toNat ++ enc o.f2.toNat ++ encL (encI 0) o.f3 ++ enc o.f4.length) (by omega) (by omega) (by rw [List.drop_zero]; simp only [List.length_append]; omega)
      (by rw [List.drop_zero, wrap_small (by omega)]; exact e6)
    have e4 := (rnumber_ev (xs ++ enc (o.f0 - last).toNat ++ enc o.f1.toNat ++ enc o.f2.toNat ++ encL (encI 0) o.f3) (o.f4.length : Int) o.f4.length rfl (by omega) (by simp only [List.length_append]; omega)).bind (f := fun k t => middenref16_Write.l1 k t o.f0 (i : Int) 0 a0 a1 a2 a3 a4 a5 o.f0 o.f1 o.f2 o.f3 o.f4) e5
    have e3 := (rints_ev (xs ++ enc (o.f0 - last).toNat ++ enc o.f1.toNat ++ enc o.f2.toNat) o.f3 0 (by omega) o6 o7 (by simp only [List.length_append]; omega)).bind (f := fun k t => (middenref16_number.f k t (o.f4.length : Int)).bind fun t => middenref16_Write.l1 k t o.f0 (i : Int) 0 a0 a1 a2 a3 a4 a5 o.f0 o.f1 o.f2 o.f3 o.f4) e4
    have e2 := (rnumber_ev (xs ++ enc (o.f0 - last).toNat ++ enc o.f1.toNat) o.f2 o.f2.toNat (by omega) (by omega) (by simp only [List.length_append]; omega)).bind (f := fun k t => (middenref16_ints.f k t o.f3 0).bind fun t => (middenref16_number.f k t (o.f4.length : Int)).bind fun t => middenref16_Write.l1 k t o.f0 (i : Int) 0 a0 a1 a2 a3 a4 a5 o.f0 o.f1 o.f2 o.f3 o.f4) e3
    have e1 := (rnumber_ev (xs ++ enc (o.f0 - last).toNat) o.f1 o.f1.toNat (by omega) (by omega) (by simp only [List.length_append]; omega)).bind (f := fun k t => (middenref16_number.f k t o.f2).bind fun t => (middenref16_ints.f k t o.f3 0).bind fun t => (middenref16_number.f k t (o.f4.length : Int)).bind fun t => middenref16_Write.l1 k t o.f0 (i : Int) 0 a0 a1 a2 a3 a4 a5 o.f0 o.f1 o.f2 o.f3 o.f4) e2
    have e0 := (rnumber_ev xs (o.f0 - last) (o.f0 - last).toNat (by omega) (by omega) (by omega)).bind (f := fun k t => (middenref16_number.f k t o.f1).bind fun t => (middenref16_number.f k t o.f2).bind fun t => (middenref16_ints.f k t o.f3 0).bind fun t => (middenref16_number.f k t (o.f4.length : Int)).bind fun t => middenref16_Write.l1 k t o.f0 (i : Int) 0 a0 a1 a2 a3 a4 a5 o.f0 o.f1 o.f2 o.f3 o.f4) e1
    refine Ev.step (fun k => ?_) e0
    simp only [middenref16_Write.l0]
    rw [if_pos (by omega), if_pos (by omega), hrd, wrapu (by omega), wrapu (by omega), wrapu (by omega), wrapu (by omega)]
theorem rwframes_l {R : List Int × Int} (j : Nat) (hj : j < a1.length) (hs : a1.length ≤ 1000000) (fr : List (List Int)) (hfr : a1.getD j [] = fr) (hl : fr.length ≤ 1000000) (hx : ∀ f ∈ fr, f.length ≤ 1000000 ∧ ∀ x ∈ f, 0 ≤ x + 0 ∧ x + 0 ≤ 4611686018427387905) : ∀ (d i : Nat) (xs : List Int), fr.length - i = d → i ≤ fr.length → xs.length + ((fr.drop i).flatMap (encL (encI 0))).length ≤ 100000000000000 →
    Ev (fun k => middenref16_Write.l2 k (xs ++ (fr.drop i).flatMap (encL (encI 0))) ((j + 1 : Nat) : Int) a0 a1 a2 a3 a4 a5) R → Ev (fun k => middenref16_Write.l3 k xs (j : Int) (i : Int) a0 a1 a2 a3 a4 a5) R := by
  have hrd5 : rd_L5 a1 (j : Int) = fr := by simp only [rd_L5, Int.toNat_natCast]; exact hfr
  intro d
  induction d with
  | zero =>
    intro i xs hd hi _ hk
    have e : i = fr.length := by omega
    subst e
    simp only [List.drop_length, List.flatMap_nil, List.append_nil] at hk
    refine Ev.step (fun k => ?_) hk
    simp only [middenref16_Write.l3]
    rw [if_pos (by omega), if_pos (by omega), hrd5, if_neg (by omega), wrap_small (by omega)]
    rfl
  | succ d ih =>
    intro i xs hd hi hb hk
    have hlt : i < fr.length := by omega
    rw [drop_get fr i [] hlt, List.flatMap_cons] at hb hk
    rw [List.length_append] at hb
    have hrd : rd_L2 fr (i : Int) = fr.getD i [] := by simp [rd_L2]
    have hin := hx _ (mem_at [] hlt)
    rw [← List.append_assoc] at hk
    have := ih (i + 1) (xs ++ encL (encI 0) (fr.getD i [])) (by omega) (by omega) (by rw [List.length_append]; omega) hk
    have h1 := (rints_ev xs (fr.getD i []) 0 (by omega) hin.1 hin.2 (by omega)).bind (f := fun k t => middenref16_Write.l3 k t (j : Int) ((i + 1 : Nat) : Int) a0 a1 a2 a3 a4 a5) this
    refine Ev.step (fun k => ?_) h1
    simp only [middenref16_Write.l3]
    rw [if_pos (by omega), if_pos (by omega), hrd5, if_pos (by omega), if_pos (by omega), hrd, wrap_small (by omega)]
    rfl
theorem rwslots_l {R : List Int × Int} (hs : a1.length ≤ 1000000) (hx : ∀ fr ∈ a1, fr.length ≤ 1000000 ∧ ∀ f ∈ fr, f.length ≤ 1000000 ∧ ∀ x ∈ f, 0 ≤ x + 0 ∧ x + 0 ≤ 4611686018427387905) : ∀ (d i : Nat) (xs : List Int), a1.length - i = d → i ≤ a1.length → xs.length + ((a1.drop i).flatMap (encL (encL (encI 0)))).length ≤ 100000000000000 →
    Ev (fun k => middenref16_Write.l2 k (xs ++ (a1.drop i).flatMap (encL (encL (encI 0)))) (a1.length : Int) a0 a1 a2 a3 a4 a5) R → Ev (fun k => middenref16_Write.l2 k xs (i : Int) a0 a1 a2 a3 a4 a5) R := by
  intro d
  induction d with
  | zero =>
    intro i xs hd hi _ hk
    have e : i = a1.length := by omega
    subst e
    simp only [List.drop_length, List.flatMap_nil, List.append_nil] at hk
    exact hk
  | succ d ih =>
    intro i xs hd hi hb hk
    have hlt : i < a1.length := by omega
    rw [drop_get a1 i [] hlt, List.flatMap_cons] at hb hk
    rw [List.length_append] at hb
    have hrd : rd_L5 a1 (i : Int) = a1.getD i [] := by simp [rd_L5]
    obtain ⟨fr, hfr⟩ : ∃ fr, a1.getD i [] = fr := ⟨_, rfl⟩
    have hin := hx _ (mem_at [] hlt)
    rw [hfr] at hb hk hrd hin
    have ef : encL (encL (encI 0)) fr = enc fr.length ++ fr.flatMap (encL (encI 0)) := rfl
    rw [ef] at hb hk
    simp only [List.length_append] at hb
    simp only [← List.append_assoc] at hk
    have := ih (i + 1) (xs ++ enc fr.length ++ fr.flatMap (encL (encI 0))) (by omega) (by omega) (by simp only [List.length_append]; omega) hk
    have e1 := rwframes_l (R := R) (a0 := a0) (a2 := a2) (a3 := a3) (a4 := a4) (a5 := a5) i hlt hs fr hfr hin.1 hin.2 fr.length 0 (xs ++ enc fr.length) (by omega) (by omega) (by rw [List.drop_zero]; simp only [List.length_append]; omega) (by rw [List.drop_zero]; exact this)
    have h1 := (rnumber_ev xs (fr.length : Int) fr.length rfl (by omega) (by omega)).bind (f := fun k t => middenref16_Write.l3 k t (i : Int) 0 a0 a1 a2 a3 a4 a5) e1
    refine Ev.step (fun k => ?_) h1
    simp only [middenref16_Write.l2]
    rw [if_pos (by omega), if_pos (by omega), hrd, wrapu (by omega)]
end
theorem rtail (xs : List Int) (hl : xs.length ≤ 100000000000000) (s : Nat) (hs : s < 4294967296) : Ev (fun k => middenref16_Write.l4 k xs (s : Int) 0) (xs ++ sb s, 0) := by
  have go : ∀ (k : Nat), middenref16_Write.l4 (k + 5) xs (s : Int) 0 = some (xs ++ sb s, 0) := by
    intro k
    have w1 : wrap64 (0 + 1) = 1 := by unfold wrap64; omega
    have w2 : wrap64 (1 + 1) = 2 := by unfold wrap64; omega
    have w3 : wrap64 (2 + 1) = 3 := by unfold wrap64; omega
    have w4 : wrap64 (3 + 1) = 4 := by unfold wrap64; omega
    have m : ∀ t : Nat, Int.tmod (t : Int) 256 % 256 = ((t % 256 : Nat) : Int) := by intro t; rw [Int.tmod_eq_emod_of_nonneg (by omega)]; omega
    have q : ∀ t : Nat, t < 4294967296 → Int.tdiv (t : Int) 256 % 4294967296 = ((t / 256 : Nat) : Int) := by intro t ht; rw [Int.tdiv_eq_ediv_of_nonneg (by omega)]; omega
    simp only [middenref16_Write.l4, w1, w2, w3, w4]
    rw [if_pos (by decide), if_pos (by omega), if_pos (by decide), if_pos (by simp; omega), if_pos (by decide), if_pos (by simp; omega), if_pos (by decide), if_pos (by simp; omega), if_neg (by decide), q s hs, q (s / 256) (by omega), q (s / 256 / 256) (by omega), m, m, m, m]
    simp [sb, Nat.div_div_eq_div_mul]
  exact ⟨5, fun k hk => by obtain ⟨j, rfl⟩ : ∃ j, k = j + 5 := ⟨k - 5, by omega⟩; exact go j⟩
/-- The reference's Write comes to the image, or to 164. -/
theorem rwrite_ev {g : Gr} (hn : Near g) (hw : Words g) (hr : (rootL g).length ≤ 1000000000) : Ev (fun k => middenref16_Write.f k g.objs g.slots g.handles g.registry g.queue g.next) (if okB g = true then (image g, 0) else ([], 164)) := by
  have hc : ∀ k, middenref16_Check.f k g.objs g.slots g.handles g.registry g.queue g.next = some (if okB g = true then 0 else 164) := by
    intro k
    unfold middenref16_Check.f
    rw [if_pos ((tameB_iff _).mpr ⟨hn.tame, hr⟩)]
  by_cases hok : okB g = true
  · rw [if_pos hok]
    have hg := good_of hn hw hok
    have hlen := hg.len hn
    have hnx := hg.next
    have hno := hn.objs
    have hns := hn.slots
    have hnh := hn.handles
    have hnq := hn.queue
    have hb12 : (body g).length ≤ 1000000000000 := by rw [body_eq, List.length_append]; simp [head]; omega
    have hb : (body g).length ≤ 100000000000000 := by omega
    have eb : body g = head ++ enc g.next.toNat ++ enc g.objs.length ++ (encOs 0 g.objs ++ enc g.slots.length) ++ g.slots.flatMap (encL (encL (encI 0))) ++ encL (encI 1) g.handles ++ encL (encI 0) g.queue := by
      unfold body
      rw [show encL (encL (encL (encI 0))) g.slots = enc g.slots.length ++ g.slots.flatMap (encL (encL (encI 0))) from rfl]
      simp only [List.append_assoc]
    have hb2 := hb
    rw [eb] at hb2
    simp only [List.length_append] at hb2
    have s5 := rtail (body g) hb (fnv (body g)) (fnvFrom_lt _ _ (by decide))
    have s4 := (rsum_ev (body g) (body_bytes g) hb12).bind (f := fun k t => middenref16_Write.l4 k (body g) t 0) s5
    have s3 := (rints_ev (head ++ enc g.next.toNat ++ enc g.objs.length ++ (encOs 0 g.objs ++ enc g.slots.length) ++ g.slots.flatMap (encL (encL (encI 0))) ++ encL (encI 1) g.handles) g.queue 0 (by omega) (by omega) (fun x hx => by have := hg.queue x hx; omega) (by simp only [List.length_append]; omega)).bind (f := fun k t => (middenref16_Sum.f k t).bind fun u => middenref16_Write.l4 k t u 0) (by rw [← eb]; exact s4)
    have s2 := (rints_ev (head ++ enc g.next.toNat ++ enc g.objs.length ++ (encOs 0 g.objs ++ enc g.slots.length) ++ g.slots.flatMap (encL (encL (encI 0)))) g.handles 1 (by omega) (by omega) (fun x hx => by have := hg.handles.2 x hx; omega) (by simp only [List.length_append]; omega)).bind (f := fun k t => (middenref16_ints.f k t g.queue 0).bind fun t => (middenref16_Sum.f k t).bind fun u => middenref16_Write.l4 k t u 0) s3
    have s1 : Ev (fun k => middenref16_Write.l2 k (head ++ enc g.next.toNat ++ enc g.objs.length ++ (encOs 0 g.objs ++ enc g.slots.length) ++ g.slots.flatMap (encL (encL (encI 0)))) (g.slots.length : Int) g.objs g.slots g.handles g.registry g.queue g.next) (image g, 0) := by
      refine Ev.step (fun k => ?_) s2
      simp only [middenref16_Write.l2]
      rw [if_neg (by omega)]
    have s0 := rwslots_l (a0 := g.objs) (a2 := g.handles) (a3 := g.registry) (a4 := g.queue) (a5 := g.next) (R := (image g, 0)) (a1 := g.slots) (by omega) (fun fr hf => ⟨by have := (hg.slots.2 fr hf).1; omega, fun f hff => ⟨by have := ((hg.slots.2 fr hf).2 f hff).1; omega, fun x hx => by have := ((hg.slots.2 fr hf).2 f hff).2 x hx; omega⟩⟩) g.slots.length 0 (head ++ enc g.next.toNat ++ enc g.objs.length ++ (encOs 0 g.objs ++ enc g.slots.length)) (by omega) (by omega) (by rw [List.drop_zero]; simp only [List.length_append]; omega) (by rw [List.drop_zero]; exact s1)
    have r0 := rwobjs_l (a0 := g.objs) (a2 := g.handles) (a3 := g.registry) (a4 := g.queue) (a5 := g.next) (R := (image g, 0)) (a1 := g.slots) (by omega) (by omega) g.objs.length 0 (head ++ enc g.next.toNat ++ enc g.objs.length) 0 (by omega) (by omega) hg.objs (by rw [List.drop_zero]; simp only [List.length_append]; omega) (by rw [List.drop_zero]; exact s0)
    have q1 := (rnumber_ev (head ++ enc g.next.toNat) (g.objs.length : Int) g.objs.length rfl (by omega) (by simp only [List.length_append]; omega)).bind (f := fun k t => middenref16_Write.l0 k t 0 0 g.objs g.slots g.handles g.registry g.queue g.next) r0
    have q0 := (rnumber_ev head g.next g.next.toNat (by omega) (by omega) (by omega)).bind (f := fun k t => (middenref16_number.f k t (g.objs.length : Int)).bind fun t => middenref16_Write.l0 k t 0 0 g.objs g.slots g.handles g.registry g.queue g.next) q1
    refine Ev.congr (fun k => ?_) q0
    unfold middenref16_Write.f
    rw [hc, if_pos hok, Option.bind_some, if_pos rfl, wrapu (by omega)]
    rfl
  · rw [if_neg hok]
    refine Ev.congr (f := fun _ => some ([], 164)) (fun k => ?_) (Ev.now _)
    unfold middenref16_Write.f
    rw [hc, if_neg hok, Option.bind_some, if_neg (by decide)]
end Go.Proofs.YtihjjkoddphmiaaDoor.img
