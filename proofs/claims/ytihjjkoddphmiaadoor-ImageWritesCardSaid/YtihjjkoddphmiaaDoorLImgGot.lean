/-
  What Read hands back may be written.
-/
import Derived.Test.YtihjjkoddphmiaaDoorLIm5
namespace Go.Proofs.YtihjjkoddphmiaaDoor.img
open Go.RowKit Go.Proofs.YtihjjkoddphmiaaDoorW.PrintWords Go.Proofs.YtihjjkoddphmiaaDoorW.PrintLast Go.Proofs.YtihjjkoddphmiaaDoorW.PrintMore Go.Proofs.YtihjjkoddphmiaaDoor.PImageRound
set_option linter.unusedVariables false
set_option linter.unusedSimpArgs false

theorem R_addr {α : Type} {d : Kd α} {e base n c : Nat} {w : World} {ok : Nat → Prop} {ad : Addr} {xs : List α} (h : d.R e w base ok (.slice (some ad) n c) xs) : ∃ g, ad = ⟨g, 0, none⟩ := by
  obtain ⟨_, inner, ho, _⟩ := h
  rcases ho.2 with ⟨h', _⟩ | ⟨g', cap', cur, h', _⟩
  · cases h'
  · injection h' with h'
    injection h' with h'
    exact ⟨g', h'⟩
theorem nf_R {e base n c : Nat} {k : IntKind} {w : World} {ok : Nat → Prop} {A : Option Addr} {xs : List Int} (h : (Kd.int k).R e w base ok (.slice A n c) xs) (hn : n = xs.length) : NF w A n := by
  rintro ad rfl j hj
  obtain ⟨g, rfl⟩ := R_addr h
  obtain ⟨cs, -, -, -, hf⟩ := Kd.R_elem h 0 (j : Int) (by omega) (by omega)
  have := hf 0
  rw [add_plain]
  simpa [Kd.int, Kd.scalar] using this
theorem nf2_R {base n c : Nat} {w : World} {ok : Nat → Prop} {A : Option Addr} {xs : List (List Int)} {e : Nat} (h : (Kd.slice 3 (Kd.int .i64)).R e w base ok (.slice A n c) xs) : NF2 w A n := by
  rintro ad rfl j hj F m f hc
  obtain ⟨g, rfl⟩ := R_addr h
  obtain ⟨cs, -, hM, hcell, -⟩ := Kd.R_elem h [] (j : Int) (by omega) (by omega)
  obtain ⟨v, rfl, hv⟩ := hM
  have h0 := hcell 0 v rfl
  have e1 : w.cell? ⟨g, j, none⟩ = some v := by simpa [Kd.slice] using h0
  rw [add_plain, e1] at hc
  injection hc with hc
  subst hc
  obtain ⟨A', c', e', -, -⟩ := Kd.R_reads hv
  injection e' with e2 e3 e4
  exact nf_R hv e3
theorem nf3_R {base n c : Nat} {w : World} {ok : Nat → Prop} {A : Option Addr} {xs : List (List (List Int))} {e : Nat} (h : (Kd.slice 24 (Kd.slice 3 (Kd.int .i64))).R e w base ok (.slice A n c) xs) : NF3 w A n := by
  rintro ad rfl j hj F m f hc
  obtain ⟨g, rfl⟩ := R_addr h
  obtain ⟨cs, -, hM, hcell, -⟩ := Kd.R_elem h [] (j : Int) (by omega) (by omega)
  obtain ⟨v, rfl, hv⟩ := hM
  have h0 := hcell 0 v rfl
  have e1 : w.cell? ⟨g, j, none⟩ = some v := by simpa [Kd.slice] using h0
  rw [add_plain, e1] at hc
  injection hc with hc
  subst hc
  exact nf2_R hv
theorem nfo_R {base n c : Nat} {w : World} {ok : Nat → Prop} {A : Option Addr} {xs : List S62} {e : Nat} (h : k62.R e w base ok (.slice A n c) xs) : NFO w A n := by
  rintro ad rfl j hj
  obtain ⟨g, rfl⟩ := R_addr h
  obtain ⟨cs, -, hM, hcell, hf⟩ := Kd.R_elem h z62 (j : Int) (by omega) (by omega)
  obtain ⟨v3, v4, rfl, h3, h4⟩ := k62_openM hM
  have hsz : k62.sz = 5 := rfl
  rw [hsz, Int.toNat_natCast] at hf hcell
  rw [add_plain]
  refine ⟨hf 0, hf 1, hf 2, fun F m f hc => ?_⟩
  have h0 := hcell 3 v3 rfl
  have e1 : (some v3 : Option Value) = some (.slice F m f) := h0.symm.trans hc
  injection e1 with e1
  subst e1
  obtain ⟨A', c', e', -, -⟩ := Kd.R_reads h3
  injection e' with e2 e3 e4
  exact nf_R h3 e3

/-- What was handed back can be read and written. -/
structure Fair (w : World) (L : Lay) (g : Gr) : Prop where
  rd : Rd w L g
  h0 : NFO w L.A0 g.objs.length
  h1 : NF3 w L.A1 g.slots.length
  h2 : NF w L.A2 g.handles.length
  h4 : NF w L.A4 g.queue.length
theorem Got.fair {w w' : World} {g : Gr} {v0 v1 v2 v3 v4 : Value} (h : Got w w' g v0 v1 v2 v3 v4) : ∃ L, [v0, v1, v2, v3, v4, .int .u64 g.next] = gcells L g ∧ Fair w' L g := by
  obtain ⟨r0, r1, r2, r3, r4⟩ := h
  obtain ⟨A0, c0, rfl, l0, C0⟩ := Kd.R_reads r0
  obtain ⟨A1, c1, rfl, l1, C1⟩ := Kd.R_reads r1
  obtain ⟨A2, c2, rfl, l2, C2⟩ := Kd.R_reads r2
  obtain ⟨A3, c3, rfl, l3, C3⟩ := Kd.R_reads r3
  obtain ⟨A4, c4, rfl, l4, C4⟩ := Kd.R_reads r4
  exact ⟨⟨A0, A1, A2, A3, A4, c0, c1, c2, c3, c4⟩, rfl, ⟨C0, C1, C2, C3, C4, l0, l1, l2, l3, l4⟩, nfo_R r0, nf3_R r1, nf_R r2 rfl, nf_R r4 rfl⟩
end Go.Proofs.YtihjjkoddphmiaaDoor.img
