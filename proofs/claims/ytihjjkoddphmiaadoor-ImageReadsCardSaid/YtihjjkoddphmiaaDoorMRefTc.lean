/-
  Contracts of the reference's text: what each method does to the reading.
-/
import Derived.Test.YtihjjkoddphmiaaDoorMRefTo
namespace Go.Proofs.YtihjjkoddphmiaaDoor.img
open Go.RowKit Go.Proofs.YtihjjkoddphmiaaDoorW.PrintWords Go.Proofs.YtihjjkoddphmiaaDoorW.PrintLast Go.Proofs.YtihjjkoddphmiaaDoorW.PrintMore Go.Proofs.YtihjjkoddphmiaaDoor.PImageRound
set_option linter.unusedVariables false
set_option linter.unusedSimpArgs false

/-- The text behind a call. -/
structure Ts (w0 w : World) (g : Nat) (b : List Int) (a e pl : Int) (w' : World) : Prop where
 tx : IsS81 w0 w' g b a e pl
 bel : Below w0.heap.size w0 w'
 keep : KeepBut w w' g none
section
variable {γ : Type} {b : List Int} {F : Res γ} {a e pl : Int} {w0 w : World} {g : Nat}
theorem tnumber_any (hb : Bytes b) (hl : b.length ≤ 1000000) {K : Nat → Nat → Res γ} (hI : IsS81 w0 w g b a e pl) (hB : Below w0.heap.size w0 w) (h : Lv b F (fun p => (num b great p).bind K) a e pl) :
  Calls Tryd.prog 50 #[.pointer (some ⟨g, 0, none⟩)] w fun en w' => ∃ n a' e' pl', en = .returned (.int .u64 n) ∧ (0 ≤ n ∧ n ≤ 4611686018427387905) ∧ Lv b F (fun p => K n.toNat p) a' e' pl' ∧ Ts w0 w g b a' e' pl' w' := by
 obtain ⟨n, a', e', pl', hf, n0, n1, -, hv⟩ := rnum_lv hb hl h
 obtain ⟨k, hk⟩ := hf.rounds
 refine (middenref16_text_number.calls k g b a e pl n a' e' pl' w0 w hI hB hk).mono ?_
 rintro en w' ⟨rfl, h1, h2, h3⟩
 exact ⟨n, a', e', pl', rfl, ⟨n0, n1⟩, hv, h1, h2, h3⟩
theorem tmany_any (hb : Bytes b) (hl : b.length ≤ 1000000) {K : Nat → Nat → Res γ} (hI : IsS81 w0 w g b a e pl) (hB : Below w0.heap.size w0 w) (h : Lv b F (fun p => (num b great p).bind fun n p => if b.length - p < n then .bad b.length 160 else K n p) a e pl) :
  Calls Tryd.prog 51 #[.pointer (some ⟨g, 0, none⟩)] w fun en w' => ∃ (n : Nat) (a' e' pl' : Int), en = .returned (.int .i64 n) ∧ n ≤ b.length ∧ Lv b F (fun p => K n p) a' e' pl' ∧ Ts w0 w g b a' e' pl' w' := by
 obtain ⟨n, a', e', pl', hf, n0, n1, -, hv⟩ := rmany_lv hb hl h
 obtain ⟨k, hk⟩ := hf.rounds
 obtain ⟨N, rfl⟩ : ∃ N : Nat, n = N := ⟨n.toNat, by omega⟩
 refine (middenref16_text_many.calls k g b a e pl N a' e' pl' w0 w hI hB hk).mono ?_
 rintro en w' ⟨rfl, h1, h2, h3⟩
 exact ⟨N, a', e', pl', rfl, by omega, hv, h1, h2, h3⟩
theorem tints_any (hb : Bytes b) (hl : b.length ≤ 1000000) (more : Int) (hm : 0 ≤ more ∧ more ≤ 1) {K : List Int → Nat → Res γ} (hI : IsS81 w0 w g b a e pl) (hB : Below w0.heap.size w0 w) (h : Lv b F (fun p => (ints b more () p).bind fun y p => K y.1 p) a e pl) :
  Calls Tryd.prog 53 #[.pointer (some ⟨g, 0, none⟩), .int .i64 more] w fun en w' => ∃ (l : List Int) (v : Value) (a' e' pl' : Int), en = .returned v ∧ l.length ≤ 1000000 ∧ Kd.R (Kd.int .i64) 3 w' w.heap.size (fun _ => True) v l ∧ Lv b F (fun p => K l p) a' e' pl' ∧ Ts w0 w g b a' e' pl' w' := by
 obtain ⟨l, a', e', pl', hf, n1, hv⟩ := rtints_lv hb hl more hm h
 obtain ⟨k, hk⟩ := hf.rounds
 refine (middenref16_text_ints.calls k g b a e pl more l a' e' pl' w0 w hI hB hk).mono ?_
 rintro en w' ⟨v, rfl, hR, h1, h2, h3⟩
 exact ⟨l, v, a', e', pl', rfl, n1, hR, hv, h1, h2, h3⟩
theorem tobject_any (hb : Bytes b) (hl : b.length ≤ 1000000) {K : S62 × Int → Nat → Res γ} (last lastP : Int) (hlast : 0 ≤ last ∧ last ≤ 4611686018427387904) (hI : IsS81 w0 w g b a e pl) (hB : Below w0.heap.size w0 w) (h : Lv b F (fun p => (obj b lastP p).bind K) a e pl) :
  Calls Tryd.prog 52 #[.pointer (some ⟨g, 0, none⟩), .int .u64 last] w fun en w' => ∃ (o : S62) (gr : Bool) (v3 v4 : Value) (a' e' pl' step : Int), en = .returned (.tuple #[.agg #[.int .u64 o.f0, .int .i64 o.f1, .int .i64 o.f2, v3, v4], .bool gr]) ∧ Obk last step o gr ∧ Kd.R (Kd.int .i64) 3 w' w.heap.size (fun _ => True) v3 o.f3 ∧ Kd.R (Kd.int .u64) 25 w' w.heap.size (fun _ => True) v4 o.f4 ∧
   Lv b F (fun p => K (⟨ser lastP step, o.f1, o.f2, o.f3, o.f4⟩, ser lastP step) p) a' e' pl' ∧ Ts w0 w g b a' e' pl' w' := by
 obtain ⟨o, gr, a', e', pl', step, hf, ho, hv⟩ := robject_lv hb hl last lastP hlast h
 obtain ⟨k, hk⟩ := hf.rounds
 refine (middenref16_text_object.calls k g b a e pl last o.f0 o.f1 o.f2 o.f3 o.f4 gr a' e' pl' w0 w hI hB hk).mono ?_
 rintro en w' ⟨v3, v4, rfl, h3, h4, h1, h2, h5⟩
 exact ⟨o, gr, v3, v4, a', e', pl', step, rfl, ho, h3, h4, hv, h1, h2, h5⟩
theorem tfault_any (p c : Int) (hI : IsS81 w0 w g b a e pl) (hB : Below w0.heap.size w0 w) :
  Calls Tryd.prog 49 #[.pointer (some ⟨g, 0, none⟩), .int .i64 p, .int .i64 c] w fun en w' => en = .returned (.tuple #[]) ∧ Ts w0 w g b a (if e = 0 then c else e) (if e = 0 then p else pl) w' := by
 have hk : middenref16_text_fault.f b a e pl p c = some (a, (if e = 0 then c else e), (if e = 0 then p else pl)) := by
  unfold middenref16_text_fault.f
  split <;> simp [*]
 refine (middenref16_text_fault.calls g b a e pl p c _ _ _ w0 w hI hB hk).mono ?_
 rintro en w' ⟨rfl, h1, h2, h3⟩
 exact ⟨rfl, h1, h2, h3⟩
end
end Go.Proofs.YtihjjkoddphmiaaDoor.img
