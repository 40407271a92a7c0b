/-
  The reference's Check as a form of the print's kind: what its walk shows.
-/
import Derived.Test.YtihjjkoddphmiaaDoorLPImageRoundx0
import Derived.Test.YtihjjkoddphmiaaDoorLRefCheck
namespace Go.Proofs.YtihjjkoddphmiaaDoor.PImageRound
open Go.RowKit Go.Proofs.YtihjjkoddphmiaaDoorW.PrintWords Go.Proofs.YtihjjkoddphmiaaDoorW.PrintLast Go.Proofs.YtihjjkoddphmiaaDoorW.PrintMore
def tameB (g : img.Gr) : Bool := (decide (g.objs.length ≤ 1000000) && decide (g.slots.length ≤ 1000000) && decide (g.handles.length ≤ 1000000) && decide (g.registry.length ≤ 1000000) && decide (g.queue.length ≤ 1000000)) && (g.slots.all (fun fr => decide (fr.length ≤ 1000000) && fr.all (fun f => decide (f.length ≤ 1000000))) && g.objs.all (fun o => decide (o.f3.length ≤ 1000000) && decide (o.f4.length ≤ 1000000))) && decide ((img.rootL g).length ≤ 1000000000)
theorem tameB_iff (g : img.Gr) : tameB g = true ↔ (img.Tame g ∧ (img.rootL g).length ≤ 1000000000) := by
  unfold tameB
  simp only [Bool.and_eq_true, decide_eq_true_eq, List.all_eq_true]
  constructor
  · rintro ⟨⟨⟨⟨⟨⟨a1, a2⟩, a3⟩, a4⟩, a5⟩, b1, b2⟩, c⟩
    exact ⟨⟨⟨a1, a2, fun fr h => (b1 fr h).1, fun fr h f hf => (b1 fr h).2 f hf, a3, a4, a5⟩, fun o h => b2 o h⟩, c⟩
  · rintro ⟨⟨⟨a1, a2, p, q, a3, a4, a5⟩, b2⟩, c⟩
    exact ⟨⟨⟨⟨⟨⟨a1, a2⟩, a3⟩, a4⟩, a5⟩, fun fr h => ⟨p fr h, fun f hf => q fr h f hf⟩, fun o h => b2 o h⟩, c⟩
def middenref16_Check.f (_ : Nat) (l0_0 : List (S62)) (l0_1 : List (List (List Int))) (l0_2 : List Int) (l0_3 : List Int) (l0_4 : List Int) (a0_5 : Int) : Option (Int) :=
  if tameB ⟨l0_0, l0_1, l0_2, l0_3, l0_4, a0_5⟩ = true then some (if img.okB ⟨l0_0, l0_1, l0_2, l0_3, l0_4, a0_5⟩ = true then 0 else 164) else none
theorem middenref16_Check.mono : ∀ a0 a1 a2 a3 a4 a5 k, LeO (middenref16_Check.f k a0 a1 a2 a3 a4 a5) (middenref16_Check.f (k + 1) a0 a1 a2 a3 a4 a5) := fun _ _ _ _ _ _ _ => LeO.refl _
theorem middenref16_Check.calls (k : Nat) (A0_0 : Option Addr) (c0_0 : Nat) (l0_0 : List (S62)) (A0_1 : Option Addr) (c0_1 : Nat) (l0_1 : List (List (List Int))) (A0_2 : Option Addr) (c0_2 : Nat) (l0_2 : List Int) (A0_3 : Option Addr) (c0_3 : Nat) (l0_3 : List Int) (A0_4 : Option Addr) (c0_4 : Nat) (l0_4 : List Int) (a0_5 : Int) (r : Int) (w : World) (hr0_0 : Kd.C k62 w A0_0 l0_0.length l0_0) (hc0_0 : l0_0.length ≤ c0_0) (hr0_1 : Kd.C (Kd.slice 24 (Kd.slice 3 (Kd.int .i64))) w A0_1 l0_1.length l0_1) (hc0_1 : l0_1.length ≤ c0_1) (hr0_2 : Kd.C (Kd.int .i64) w A0_2 l0_2.length l0_2) (hc0_2 : l0_2.length ≤ c0_2) (hr0_3 : Kd.C (Kd.int .i64) w A0_3 l0_3.length l0_3) (hc0_3 : l0_3.length ≤ c0_3) (hr0_4 : Kd.C (Kd.int .i64) w A0_4 l0_4.length l0_4) (hc0_4 : l0_4.length ≤ c0_4) (h : middenref16_Check.f k l0_0 l0_1 l0_2 l0_3 l0_4 a0_5 = some r) :
    Calls Tryd.prog 13 #[.agg #[.slice A0_0 l0_0.length c0_0, .slice A0_1 l0_1.length c0_1, .slice A0_2 l0_2.length c0_2, .slice A0_3 l0_3.length c0_3, .slice A0_4 l0_4.length c0_4, .int .u64 a0_5]] w fun e w' => e = .returned (.int .i64 r) ∧ Below w.heap.size w w' := by
  unfold middenref16_Check.f at h
  split at h
  · rename_i hh
    injection h with h
    rw [← h]
    exact img.RefCheck_any ⟨A0_0, A0_1, A0_2, A0_3, A0_4, c0_0, c0_1, c0_2, c0_3, c0_4⟩ _ ((tameB_iff _).mp hh).1 ((tameB_iff _).mp hh).2 w ⟨hr0_0, hr0_1, hr0_2, hr0_3, hr0_4, hc0_0, hc0_1, hc0_2, hc0_3, hc0_4⟩
  · exact absurd h (by simp)
end Go.Proofs.YtihjjkoddphmiaaDoor.PImageRound
