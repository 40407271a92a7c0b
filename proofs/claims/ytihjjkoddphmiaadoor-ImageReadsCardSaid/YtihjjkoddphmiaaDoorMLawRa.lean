/-
  What the law of ImageReads holds while it looks.
-/
import Derived.Test.YtihjjkoddphmiaaDoorMRefRd
import Derived.Test.YtihjjkoddphmiaaDoorMLawQ
import Derived.Test.YtihjjkoddphmiaaDoorMIm5
import Derived.Test.YtihjjkoddphmiaaDoorMSmG
namespace Go.Proofs.YtihjjkoddphmiaaDoor.img
open Go.RowKit Go.Proofs.YtihjjkoddphmiaaDoorW.PrintWords Go.Proofs.YtihjjkoddphmiaaDoorW.PrintLast Go.Proofs.YtihjjkoddphmiaaDoorW.PrintMore Go.Proofs.YtihjjkoddphmiaaDoor.PImageRound
set_option linter.unusedVariables false
set_option linter.unusedSimpArgs false

theorem same_own {A B : Option Addr} {c d : Nat} {l : List Int} {w : World} (hl : Bytes l) (h1 : Kd.C (Kd.int .u8) w A l.length l) (h2 : l.length ≤ c) (h3 : Kd.C (Kd.int .u8) w B l.length l) (h4 : l.length ≤ d) :
  Calls Tryd.prog 19 #[.slice A l.length c, .slice B l.length d] w fun e w' => e = .returned (.bool true) ∧ Below w.heap.size w w' := by
 refine (same_any hl hl h1 h2 h3 h4).mono ?_
 rintro e w' ⟨rfl, hb⟩
 exact ⟨by simp, hb⟩
/-- No graph. -/
def gNo : Gr := ⟨[], [], [], [], [], 0⟩
def toldG : Res Gr → Gr
 | .ok g _ => g
 | .bad _ _ => gNo
def toldN : Res Gr → Int
 | .ok _ _ => 0
 | .bad q _ => q
def toldE : Res Gr → Int
 | .ok _ _ => 0
 | .bad _ c => c
theorem ReadPost.plain {w w' : World} {r : Res Gr} {e : Ending} (h : ReadPost w r e w') : Below w.heap.size w w' ∧ ∃ (A0 A1 A2 A3 A4 : Option Addr) (c0 c1 c2 c3 c4 : Nat), e = .returned (.tuple #[.agg #[.slice A0 (toldG r).objs.length c0, .slice A1 (toldG r).slots.length c1, .slice A2 (toldG r).handles.length c2, .slice A3 (toldG r).registry.length c3, .slice A4 (toldG r).queue.length c4, .int .u64 (toldG r).next], .int .i64 (toldN r), .int .i64 (toldE r)]) ∧ Got w w' (toldG r) (.slice A0 (toldG r).objs.length c0) (.slice A1 (toldG r).slots.length c1) (.slice A2 (toldG r).handles.length c2) (.slice A3 (toldG r).registry.length c3) (.slice A4 (toldG r).queue.length c4) := by
 obtain ⟨hb, h⟩ := h
 refine ⟨hb, ?_⟩
 cases r with
 | ok g q =>
  obtain ⟨v0, v1, v2, v3, v4, rfl, hg⟩ := h
  have hg0 := hg
  obtain ⟨r0, r1, r2, r3, r4⟩ := hg
  obtain ⟨A0, c0, rfl, -, -⟩ := Kd.R_reads r0
  obtain ⟨A1, c1, rfl, -, -⟩ := Kd.R_reads r1
  obtain ⟨A2, c2, rfl, -, -⟩ := Kd.R_reads r2
  obtain ⟨A3, c3, rfl, -, -⟩ := Kd.R_reads r3
  obtain ⟨A4, c4, rfl, -, -⟩ := Kd.R_reads r4
  exact ⟨A0, A1, A2, A3, A4, c0, c1, c2, c3, c4, rfl, hg0⟩
 | bad q c =>
  subst h
  exact ⟨none, none, none, none, none, 0, 0, 0, 0, 0, rfl, ⟨Kd.R_nil _ _ _ _ _, Kd.R_nil _ _ _ _ _, Kd.R_nil _ _ _ _ _, Kd.R_nil _ _ _ _ _, Kd.R_nil _ _ _ _ _⟩⟩
theorem Got.rd {w w' : World} {g : Gr} {A0 A1 A2 A3 A4 : Option Addr} {c0 c1 c2 c3 c4 : Nat} (h : Got w w' g (.slice A0 g.objs.length c0) (.slice A1 g.slots.length c1) (.slice A2 g.handles.length c2) (.slice A3 g.registry.length c3) (.slice A4 g.queue.length c4)) : Rd w' ⟨A0, A1, A2, A3, A4, c0, c1, c2, c3, c4⟩ g := by
 obtain ⟨_, _, e0, h0, C0⟩ := Kd.R_reads h.r0
 obtain ⟨_, _, e1, h1, C1⟩ := Kd.R_reads h.r1
 obtain ⟨_, _, e2, h2, C2⟩ := Kd.R_reads h.r2
 obtain ⟨_, _, e3, h3, C3⟩ := Kd.R_reads h.r3
 obtain ⟨_, _, e4, h4, C4⟩ := Kd.R_reads h.r4
 injection e0 with e0 _ e0'; injection e1 with e1 _ e1'; injection e2 with e2 _ e2'; injection e3 with e3 _ e3'; injection e4 with e4 _ e4'
 subst e0 e1 e2 e3 e4 e0' e1' e2' e3' e4'
 exact ⟨C0, C1, C2, C3, C4, h0, h1, h2, h3, h4⟩
theorem Got.on {w w' w'' : World} {g : Gr} {v0 v1 v2 v3 v4 : Value} (h : Got w w' g v0 v1 v2 v3 v4) (hb : Below w'.heap.size w' w'') : Got w w'' g v0 v1 v2 v3 v4 :=
 ⟨Kd.R_below h.r0 hb, Kd.R_below h.r1 hb, Kd.R_below h.r2 hb, Kd.R_below h.r3 hb, Kd.R_below h.r4 hb⟩
theorem Got.set {w w' : World} {g : Gr} {v0 v1 v2 v3 v4 : Value} {k : Nat} {cs : Array Value} (h : Got w w' g v0 v1 v2 v3 v4) (hb : w'.heap[k]? = some (.cells cs 27 (0, 0))) (x0 x1 x2 x3 x4 x5 : Value) : Got w (set6 w' k x0 x1 x2 x3 x4 x5) g v0 v1 v2 v3 v4 :=
 ⟨set6_row _ _ _ _ _ _ h.r0 hb (by decide), set6_row _ _ _ _ _ _ h.r1 hb (by decide), set6_row _ _ _ _ _ _ h.r2 hb (by decide), set6_row _ _ _ _ _ _ h.r3 hb (by decide), set6_row _ _ _ _ _ _ h.r4 hb (by decide)⟩
theorem told_tame (bs : List Int) (hl : bs.length ≤ 1000000) : Tame (toldG (readR bs)) := by
 cases h : readR bs with
 | ok g q =>
  unfold readR at h
  obtain ⟨u, p, h1, h⟩ := bind_ok h
  obtain ⟨g0, p1, h2, h⟩ := bind_ok h
  obtain ⟨u3, p3, h3, h⟩ := bind_ok h
  split at h
  ·injection h with h4
   subst h4
   have e := h1
   unfold beginR at e
   exact (graph_fits h2).tame hl
  ·cases h
 | bad q c => exact ⟨⟨Nat.zero_le _, Nat.zero_le _, (fun fr h => by cases h), (fun fr h => by cases h), Nat.zero_le _, Nat.zero_le _, Nat.zero_le _⟩, fun o h => by cases h⟩
theorem byte_bits (x y : Int) : 0 ≤ bits BinOp.xor IntKind.u8 x y ∧ bits BinOp.xor IntKind.u8 x y ≤ 255 := by
 have hwf := wf_bits BinOp.xor .u8 x y
 have e1 : IntKind.u8.min = 0 := by decide
 have e2 : IntKind.u8.max = 255 := by decide
 generalize bits BinOp.xor IntKind.u8 x y = v at hwf ⊢
 simp [Lit.wf] at hwf
 omega
/-- The room beside a block that serves for nothing in particular. -/
theorem set6_grown (wr : World) (k : Nat) (x0 x1 x2 x3 x4 x5 : Value) : wr.grownBy (set6 wr k x0 x1 x2 x3 x4 x5) (some k) := by
 have hb := set6_below (w := wr) (n := 0) x0 x1 x2 x3 x4 x5 (Below.refl 0 wr) (Nat.zero_le k)
 refine ⟨hb.os, hb.tape, hb.output, hb.size, fun i hi hne => ?_⟩
 have e : i ≠ k := fun e => hne (by rw [e])
 unfold set6
 rw [Below.heap_setCell _ ⟨k, 5, none⟩ _ i e, Below.heap_setCell _ ⟨k, 4, none⟩ _ i e, Below.heap_setCell _ ⟨k, 3, none⟩ _ i e, Below.heap_setCell _ ⟨k, 2, none⟩ _ i e, Below.heap_setCell _ ⟨k, 1, none⟩ _ i e, Below.heap_setCell _ ⟨k, 0, none⟩ _ i e]
/-- A block with a graph's cells. -/
def Blk6 (wr : World) (k : Nat) : Prop := ∃ y0 y1 y2 y3 y4 y5 : Value, wr.heap[k]? = some (.cells #[y0, y1, y2, y3, y4, y5] 27 (0, 0))
/-- While the law reads: the argument's bytes, the room, the lent bytes (block f: xs), the two graphs' variables. -/
structure Lr (w : World) (A : Option Addr) (bs : List Int) (base r f k3 k8 c' : Nat) (ρ : Nat → Role) (C : Array Value) (xs : List Int) (wr : World) : Prop where
 bel : Below w.heap.size w wr
 rm : Rm wr ρ base r C 4000000000000
 li : LI .u8 5 wr ρ (.slice (some ⟨f, 0, none⟩) bs.length c') xs
 bx : Bytes xs
 b3 : Blk6 wr k3
 b8 : Blk6 wr k8
 w3 : ρ k3 = .work
 w8 : ρ k8 = .work
 g3 : w.heap.size ≤ k3
 g8 : w.heap.size ≤ k8
 gf : w.heap.size ≤ f
 ne : k3 ≠ k8
section
variable {w wr w2 : World} {A : Option Addr} {bs xs : List Int} {base r f k3 k8 c' : Nat} {ρ : Nat → Role} {C : Array Value}
theorem Lr.len (h : Lr w A bs base r f k3 k8 c' ρ C xs wr) : xs.length = bs.length ∧ bs.length ≤ c' := by
 obtain ⟨_, _, _, _, e, h1, -⟩ := h.li
 injection e with _ e2 e3
 omega
theorem Lr.row (h : Lr w A bs base r f k3 k8 c' ρ C xs wr) : Kd.C (Kd.int .u8) wr (some ⟨f, 0, none⟩) xs.length xs := by
 obtain ⟨_, _, e, -, hC⟩ := h.li.reads
 injection e with e1 _ _
 rw [e1]
 exact hC
theorem Blk6.below {k : Nat} (h : Blk6 wr k) (hb : Below wr.heap.size wr w2) : Blk6 w2 k := by
 obtain ⟨y0, y1, y2, y3, y4, y5, h⟩ := h
 exact ⟨y0, y1, y2, y3, y4, y5, blk_below h hb⟩
theorem Lr.below (h : Lr w A bs base r f k3 k8 c' ρ C xs wr) (hb : Below wr.heap.size wr w2) : Lr w A bs base r f k3 k8 c' ρ C xs w2 :=
 ⟨below_step h.bel hb, h.rm.below hb, LI.stay _ _ _ _ _ _ _ _ (Ext.below hb).lies h.li, h.bx, h.b3.below hb, h.b8.below hb, h.w3, h.w8, h.g3, h.g8, h.gf, h.ne⟩
theorem lies_grown {k : Nat} (hg : wr.grownBy w2 (some k)) (hk : ρ k = .work) : Lies wr ρ w2 ρ := fun f m o hf ho =>
 ⟨(hg.block f (blk_lt ho) (fun e => by injection e with e; rw [e, hk] at hf; cases hf)).trans ho, hf⟩
theorem Blk6.other {k k' : Nat} (h : Blk6 wr k) (hg : wr.grownBy w2 (some k')) (hne : k ≠ k') : Blk6 w2 k := by
 obtain ⟨y0, y1, y2, y3, y4, y5, h⟩ := h
 exact ⟨y0, y1, y2, y3, y4, y5, blk_grown h hg (fun e => hne (by injection e))⟩
theorem Blk6.set {k : Nat} (h : Blk6 wr k) (x0 x1 x2 x3 x4 x5 : Value) : Blk6 (set6 wr k x0 x1 x2 x3 x4 x5) k := by
 obtain ⟨y0, y1, y2, y3, y4, y5, h⟩ := h
 exact ⟨x0, x1, x2, x3, x4, x5, set6_blk _ _ _ _ _ _ h⟩
theorem Lr.set3 (h : Lr w A bs base r f k3 k8 c' ρ C xs wr) (x0 x1 x2 x3 x4 x5 : Value) : Lr w A bs base r f k3 k8 c' ρ C xs (set6 wr k3 x0 x1 x2 x3 x4 x5) :=
 have hg := set6_grown wr k3 x0 x1 x2 x3 x4 x5
 ⟨set6_below _ _ _ _ _ _ h.bel h.g3, h.rm.grown hg (fun k hk => by injection hk with hk; rw [← hk]; exact h.w3), LI.stay _ _ _ _ _ _ _ _ (lies_grown hg h.w3) h.li, h.bx, h.b3.set _ _ _ _ _ _, h.b8.other hg h.ne.symm, h.w3, h.w8, h.g3, h.g8, h.gf, h.ne⟩
theorem Lr.set8 (h : Lr w A bs base r f k3 k8 c' ρ C xs wr) (x0 x1 x2 x3 x4 x5 : Value) : Lr w A bs base r f k3 k8 c' ρ C xs (set6 wr k8 x0 x1 x2 x3 x4 x5) :=
 have hg := set6_grown wr k8 x0 x1 x2 x3 x4 x5
 ⟨set6_below _ _ _ _ _ _ h.bel h.g8, h.rm.grown hg (fun k hk => by injection hk with hk; rw [← hk]; exact h.w8), LI.stay _ _ _ _ _ _ _ _ (lies_grown hg h.w8) h.li, h.bx, h.b3.other hg h.ne, h.b8.set _ _ _ _ _ _, h.w3, h.w8, h.g3, h.g8, h.gf, h.ne⟩
/-- A byte in the middle of the lent list. -/
theorem Lr.mid (h : Lr w A bs base r f k3 k8 c' ρ C xs wr) {i : Nat} (hi : i < bs.length) : wr.cell? ⟨f, i, none⟩ = some (.int .u8 (xs.getD i 0)) ∧ wr.frozen? ⟨f, i, none⟩ = false := by
 obtain ⟨f0, c0, cs, m, e, h1, h2, h3, h4, h5, h6⟩ := h.li
 injection e with e1 e2 e3
 injection e1 with e1
 injection e1 with e1 _ _
 subst e1
 obtain ⟨u, a0, hu⟩ := h6 i _ (List.getElem?_eq_getElem (by omega))
 refine ⟨(blk_cell h3 _).trans ?_, blk_frozen h3 i⟩
 rw [a0, show u = _ from hu, List.getD_eq_getElem?_getD, List.getElem?_eq_getElem (by omega)]
 rfl
theorem Lr.turn (h : Lr w A bs base r f k3 k8 c' ρ C xs wr) {i : Nat} (hi : i < bs.length) (y : Int) (hy : 0 ≤ y ∧ y ≤ 255) : Lr w A bs base r f k3 k8 c' ρ C (xs.set i y) (wr.setCell ⟨f, i, none⟩ (.int .u8 y)) := by
 obtain ⟨f0, c0, cs, m, e, h1, h2, h3, h4, h5, h6⟩ := h.li
 injection e with e1 e2 e3
 injection e1 with e1
 injection e1 with e1 _ _
 subst e1
 have n3 : k3 ≠ f := fun e => by have := h.w3; rw [e, h4] at this; cases this
 have n8 : k8 ≠ f := fun e => by have := h.w8; rw [e, h4] at this; cases this
 refine ⟨h.bel.setCell (p := ⟨f, i, none⟩) h.gf _, h.rm.put h4 (by omega) _, ⟨f, c', cs.setIfInBounds i (.int .u8 y), m, by simp [e2], by simp; omega, by simpa using h2, blk_set h3 i _, h4, by simpa using h5, fun j x hx => ?_⟩, fun x hx => ?_, ?_, ?_, h.w3, h.w8, h.g3, h.g8, h.gf, h.ne⟩
 ·rw [List.getElem?_set] at hx
  by_cases ei : i = j
  ·subst ei
   rw [if_pos rfl, if_pos (by omega)] at hx
   injection hx with hx
   subst hx
   obtain ⟨u, hu, -⟩ := h6 i _ (List.getElem?_eq_getElem (by omega))
   have hs : i < cs.size := (Array.getElem?_eq_some_iff.1 hu).1
   exact ⟨.int .u8 y, by simp [hs], rfl⟩
  ·rw [if_neg ei] at hx
   obtain ⟨u, hu, hpu⟩ := h6 j x hx
   refine ⟨u, ?_, hpu⟩
   rw [Array.getElem?_setIfInBounds, if_neg ei]
   exact hu
 ·rcases List.mem_or_eq_of_mem_set hx with hx | hx
  ·exact h.bx x hx
  ·rw [hx]; exact ⟨by omega, by omega⟩
 ·obtain ⟨y0, y1, y2, y3, y4, y5, hb⟩ := h.b3
  exact ⟨y0, y1, y2, y3, y4, y5, blk_far hb n3 _⟩
 ·obtain ⟨y0, y1, y2, y3, y4, y5, hb⟩ := h.b8
  exact ⟨y0, y1, y2, y3, y4, y5, blk_far hb n8 _⟩
end
theorem no_row (W : World) (base : Nat) (h : base ≤ W.heap.size) : (Kd.int .u8).R 5 (W.alloc (.cells #[] 5)) base (fun _ => True) (.slice (some ⟨W.heap.size, 0, none⟩) 0 0) [] := by
 have := R_block (k := .u8) (xs := []) (heap_alloc_new W (.cells #[] 5)) h (by decide)
 exact this
end Go.Proofs.YtihjjkoddphmiaaDoor.img
