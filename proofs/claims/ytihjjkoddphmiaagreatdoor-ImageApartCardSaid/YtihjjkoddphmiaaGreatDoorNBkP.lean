/-
  The Book of middenkept: what was read is handed over, block by block.
-/
import Derived.Test.YtihjjkoddphmiaaGreatDoorNBkN
import Derived.Test.YtihjjkoddphmiaaGreatDoorNBkV
import Derived.Test.YtihjjkoddphmiaaGreatDoorNBkQ
import Derived.Test.YtihjjkoddphmiaaGreatDoorNSep2
import Derived.Test.YtihjjkoddphmiaaGreatDoorNIm5
namespace Go.Proofs.YtihjjkoddphmiaaGreatDoor.bk
open Go.RowKit Go.Proofs.YtihjjkoddphmiaaGreatDoorW.PrintWords
set_option linter.unusedVariables false
set_option linter.unusedSimpArgs false
/-- A new Book's cells. -/
def bk0 (j : Nat) : Value := if j < 2 then .bool false else if j < 4 then .int .i64 0 else if 121 ≤ j then .slice none 0 0 else if (j - 4) % 9 < 8 then .slice none 0 0 else .int .i64 0
theorem bk0_own (j : Nat) : (bk0 j).ownBlock = none := by
 unfold bk0
 split; rfl
 split; rfl
 split; rfl
 split <;> rfl
theorem bk0_row (j : Nat) (h : rty j ≠ 0) : bk0 j = .slice none 0 0 := by
 unfold bk0
 by_cases h1 : 121 ≤ j
 ·rw [if_neg (by omega), if_neg (by omega), if_pos h1]
 ·have hm : j % 200 = j := Nat.mod_eq_of_lt (by omega)
  unfold rty at h
  rw [hm] at h
  by_cases h4 : j < 4
  ·rw [if_pos h4] at h; exact absurd rfl h
  ·rw [if_neg h4] at h
   by_cases h8 : (j - 4) % 9 < 8
   ·rw [if_neg (by omega), if_neg h4, if_neg h1, if_pos h8]
   ·rw [if_neg (by omega), if_neg h8] at h; exact absurd rfl h
theorem book_new (w : World) (m : Nat → Prop) (hm : ∀ k, w.heap.size ≤ k → m k) (C : Array Value) (hC : C.toList = (List.range 121).map bk0) : All m (w.alloc (.cells C 39)) w.heap.size (fun _ => none) bk0 (fun _ => []) 0 0 := by
 have hsz : C.size = 121 := by have := congrArg List.length hC; simpa using this
 have hc : ∀ j, j < 121 → C[j]? = some (bk0 j) := fun j hj => by
  have := congrArg (·[j]?) hC
  simpa [List.getElem?_map, List.getElem?_range hj] using this
 refine ⟨⟨⟨C, heap_alloc_new w _, hsz, hc⟩, fun j hj => ?_, fun j k e => ?_, fun i j k e => ?_, fun j k e => ?_, (fun k g e => nomatch e), hm _ (Nat.le_refl _), fun j k e => ?_, (fun k g e => nomatch e), fun k hk => hm k (by simp at hk; omega)⟩, (fun k g e => nomatch e), fun q hq => ⟨⟨rfl, rfl, (fun i v u e => by simp at e), (fun i v u e => by simp at e), (fun v hv => by simp at hv), (fun v hv => by simp at hv), List.Pairwise.nil, List.Pairwise.nil, by simp⟩, rfl, rfl, rfl, (fun v hv => by simp at hv), (fun v hv => by simp at hv), (fun v hv => by simp at hv)⟩, fun q hq h13 i hi => ?_, rfl, rfl, ⟨0, rfl⟩, rfl, fun q hq => ⟨0, ?_⟩, by omega⟩
 ·rw [bk0_row j hj]; exact World.ownsRow_nil _ _ _ _
 ·rw [bk0_own] at e; cases e
 ·rw [bk0_own] at e; cases e
 ·rw [bk0_own] at e; cases e
 ·rw [bk0_own] at e; cases e
 ·unfold bk0
  rw [if_neg (by omega), if_neg (by omega), if_neg (by omega), if_pos (by omega)]
 ·unfold bk0
  rw [if_neg (by omega), if_neg (by omega), if_neg (by omega), if_neg (by omega)]
section
variable {m : Nat → Prop} {w : World} {bk R k : Nat} {s : Nat → Option Bl} {V : Nat → Value} {X : Nat → List Value} {d : Int} {g : Bl}
/-- A block is handed over: it isn't the Book's, and is m's. -/
theorem All.adopt (h : All m w bk s V X R d) (hk : s k = none) (hb : k ≠ bk) (hv : ∀ j, (V j).ownBlock ≠ some k) (hm : m k) (hr : g.role = 0) (ho : w.ownsRow 0 (ety g.kd) (esz g.kd) (.slice (some ⟨k, 0, none⟩) g.n g.cap) g.n g.L) (hT : TyL s g) : All m w bk (upd s k (some g)) V X R d := by
 have hne : ∀ i gi, s i = some gi → upd s k (some g) i = some gi := fun i gi hi => by rw [upd_ne _ _ (fun e => by rw [e, hk] at hi; cases hi)]; exact hi
 refine ⟨⟨h.sh.blk, h.sh.row, h.sh.lt, h.sh.dis, fun j i e => ⟨by rw [upd_ne _ _ (fun e2 => hv j (by rw [e2] at e; exact e))]; exact (h.sh.off j i e).1, (h.sh.off j i e).2⟩, fun i gi e => ?_, h.sh.mb, h.sh.mv, fun i gi e => ?_, h.sh.up⟩, h.ty.put (Le.new hk g) (hT.mono (Le.new hk g)), fun q hq => (h.ks q hq).far (fun _ _ _ => rfl) (fun i gi e _ _ => hne i gi e) (Nat.le_refl _), h.dd, h.v0, h.v1, h.v2, h.v3, h.v8, h.rb⟩
 ·by_cases e2 : i = k
  ·subst e2; rw [upd_same] at e; cases e; exact ⟨hb, ho⟩
  ·rw [upd_ne _ _ e2] at e; exact h.sh.fit i gi e
 ·by_cases e2 : i = k
  ·subst e2; exact hm
  ·rw [upd_ne _ _ e2] at e; exact h.sh.ms i gi e
end
end Go.Proofs.YtihjjkoddphmiaaGreatDoor.bk
namespace Go.Proofs.YtihjjkoddphmiaaGreatDoor.bk
open Go.RowKit Go.Proofs.YtihjjkoddphmiaaGreatDoorW.PrintWords Go.Proofs.YtihjjkoddphmiaaGreatDoor.img Go.Proofs.YtihjjkoddphmiaaGreatDoor.PImageApart
set_option linter.unusedVariables false
set_option linter.unusedSimpArgs false
def Free (m : Nat → Prop) (bk : Nat) (V : Nat → Value) (s : Nat → Option Bl) (k : Nat) : Prop := s k = none ∧ k ≠ bk ∧ (∀ j, (V j).ownBlock ≠ some k) ∧ m k
/-- A step: blocks of P alone are handed over. -/
def Stp (m : Nat → Prop) (w : World) (bk : Nat) (V : Nat → Value) (X : Nat → List Value) (R : Nat) (d : Int) (P : Nat → Prop) (E : (Nat → Option Bl) → Prop) : Prop :=
 ∀ s, All m w bk s V X R d → (∀ k, P k → Free m bk V s k) → ∃ s', All m w bk s' V X R d ∧ E s' ∧ ∀ k, ¬ P k → s' k = s k
def Far (P : Nat → Prop) (E : (Nat → Option Bl) → Prop) : Prop := ∀ s s', E s → (∀ k, P k → s' k = s k) → E s'
section
variable {m : Nat → Prop} {w : World} {bk R : Nat} {V : Nat → Value} {X : Nat → List Value} {d : Int} {P P' : Nat → Prop} {E E' : (Nat → Option Bl) → Prop}
theorem Stp.weak (h : Stp m w bk V X R d P E) (hP : ∀ k, P k → P' k) : Stp m w bk V X R d P' E := fun s ha hf => by
 obtain ⟨s', h1, h2, h3⟩ := h s ha (fun k hk => hf k (hP k hk))
 exact ⟨s', h1, h2, fun k hk => h3 k (fun hp => hk (hP k hp))⟩
theorem Stp.imp (h : Stp m w bk V X R d P E) (hE : ∀ s, All m w bk s V X R d → E s → E' s) : Stp m w bk V X R d P E' := fun s ha hf => by
 obtain ⟨s', h1, h2, h3⟩ := h s ha hf
 exact ⟨s', h1, hE s' h1 h2, h3⟩
theorem Stp.none_ (hE : ∀ s, E s) : Stp m w bk V X R d P E := fun s ha _ => ⟨s, ha, hE s, fun _ _ => rfl⟩
theorem Stp.and_ (h1 : Stp m w bk V X R d P E) (h2 : Stp m w bk V X R d P' E') (hd : ∀ k, P k → ¬ P' k) (hF : Far P E) : Stp m w bk V X R d (fun k => P k ∨ P' k) (fun s => E s ∧ E' s) := fun s ha hf => by
 obtain ⟨s1, a1, a2, a3⟩ := h1 s ha (fun k hk => hf k (.inl hk))
 obtain ⟨s2, b1, b2, b3⟩ := h2 s1 a1 (fun k hk => by
  have := hf k (.inr hk)
  exact ⟨(a3 k (fun hp => hd k hp hk)).trans this.1, this.2⟩)
 exact ⟨s2, b1, ⟨hF s1 s2 a2 (fun k hk => b3 k (hd k hk)), b2⟩, fun k hk => (b3 k (fun h => hk (.inr h))).trans (a3 k (fun h => hk (.inl h)))⟩
theorem Stp.seq {F : Nat → Nat → Prop} {E : Nat → (Nat → Option Bl) → Prop} : ∀ n, (∀ i, i < n → Stp m w bk V X R d (F i) (E i)) → (∀ i j k, i < j → j < n → F i k → ¬ F j k) → (∀ i, i < n → Far (F i) (E i)) → Stp m w bk V X R d (fun k => ∃ i, i < n ∧ F i k) (fun s => ∀ i, i < n → E i s)
 | 0, _, _, _ => Stp.none_ (fun s i hi => by omega)
 | n + 1, h, hd, hF => by
  have ih := Stp.seq n (fun i hi => h i (by omega)) (fun i j k h1 h2 => hd i j k h1 (by omega)) (fun i hi => hF i (by omega))
  have h2 := ih.and_ (h n (by omega)) (fun k ⟨i, hi, hk⟩ hn => hd i n k hi (by omega) hk hn) (fun s s' hs hk i hi => hF i (by omega) s s' (hs i hi) (fun k hk' => hk k ⟨i, hi, hk'⟩))
  refine (h2.weak (P' := fun k => ∃ i, i < n + 1 ∧ F i k) (fun k hk => ?_)).imp (fun s _ hs i hi => ?_)
  ·rcases hk with ⟨i, hi, hk⟩ | hk
   ·exact ⟨i, by omega, hk⟩
   ·exact ⟨n, by omega, hk⟩
  ·by_cases e : i = n
   ·subst e; exact hs.2
   ·exact hs.1 i (by omega)
/-- The list's own block behind its elements'. -/
theorem Stp.block (h : Stp m w bk V X R d P E) {k0 : Nat} {g : Bl} (hk : ¬ P k0) (hr : g.role = 0) (ho : w.ownsRow 0 (ety g.kd) (esz g.kd) (.slice (some ⟨k0, 0, none⟩) g.n g.cap) g.n g.L) (hT : ∀ s, All m w bk s V X R d → E s → TyL s g) (hF : Far P E) :
  Stp m w bk V X R d (fun k => P k ∨ k = k0) (fun s => E s ∧ s k0 = some g) := fun s ha hf => by
 obtain ⟨s1, a1, a2, a3⟩ := h s ha (fun k hk => hf k (.inl hk))
 have f0 := hf k0 (.inr rfl)
 refine ⟨upd s1 k0 (some g), a1.adopt ((a3 k0 hk).trans f0.1) f0.2.1 f0.2.2.1 f0.2.2.2 hr ho (hT s1 a1 a2), ⟨hF s1 _ a2 (fun k hp => upd_ne _ _ (fun e => hk (e ▸ hp))), upd_same _ _ _⟩, fun k hn => ?_⟩
 rw [upd_ne _ _ (fun e => hn (.inr e))]
 exact a3 k (fun hp => hn (.inl hp))
theorem own0 {b e z n : Nat} {v : Value} {xs : List Value} (h : w.ownsRow b e z v n xs) : w.ownsRow 0 e z v n xs := by
 obtain ⟨h1, h2 | ⟨g, cap, cur, h2, -, h3⟩⟩ := h
 ·exact ⟨h1, .inl h2⟩
 ·exact ⟨h1, .inr ⟨g, cap, cur, h2, Nat.zero_le _, h3⟩⟩
theorem Gv.fr {q : Nat} {v : Value} {T : Nat → Prop} : Far T (fun s => Gv q s v T) := fun s s' h hk => h.far (fun k g e1 e2 => (hk k e2).trans e1)
theorem Gv9.fr {N : Nat} {v : Value} {T : Nat → Prop} : Far T (fun s => Gv9 N s v T) := fun s s' h hk => h.far (fun k g e1 e2 => (hk k e2).trans e1)
theorem Gv.rd {q : Nat} {s : Nat → Option Bl} {v : Value} {T : Nat → Prop} (h : Gv q s v T) (ht : Typ s) : RdS s q v ∧ v.oneCell' = true := by
 rcases h.1 with rfl | ⟨k, g, rfl, h1, h2, h3⟩
 ·exact ⟨⟨none, 0, 0, rfl, by omega, fun h => by omega⟩, rfl⟩
 ·exact ⟨⟨_, _, _, rfl, (ht k g h1).le, fun _ => ⟨k, g, rfl, h1, h2, Nat.le_refl _⟩⟩, rfl⟩
theorem Gv9.rd {N : Nat} {s : Nat → Option Bl} {v : Value} {T : Nat → Prop} (h : Gv9 N s v T) (ht : Typ s) : RdS s 9 v ∧ v.oneCell' = true := by
 obtain ⟨A, n, c, L, F, h⟩ := h
 obtain ⟨rfl, ⟨rfl, rfl, rfl, rfl⟩ | ⟨k, rfl, hk⟩⟩ := h.vl
 ·exact ⟨⟨none, 0, 0, rfl, by omega, fun h => by omega⟩, rfl⟩
 ·exact ⟨⟨_, _, _, rfl, (ht k _ hk).le, fun _ => ⟨k, _, rfl, hk, rfl, Nat.le_refl _⟩⟩, rfl⟩
/-- A row of whole numbers. -/
theorem st_int {kk : IntKind} {q e b : Nat} {ok : Nat → Prop} {v : Value} {xs : List Int} (he : ety q = e) (hz : esz q = 1) (hq : ∀ s x, TyE s q [.int kk x]) (h : (Kd.int kk).R e w b ok v xs) (hl : xs.length ≤ 1073741824) : Stp m w bk V X R d (fun k => v.ownBlock = some k) (fun s => Gv q s v (fun k => v.ownBlock = some k)) := by
 obtain ⟨h0, inner, ho, hr⟩ := h
 rcases ho.2 with ⟨rfl, hn⟩ | ⟨g, cap, cur, rfl, -⟩
 ·exact Stp.none_ (fun s => ⟨.inl rfl, fun k e => e⟩)
 ·have hs : Stp m w bk V X R d (fun k => False) (fun s => True) := Stp.none_ (fun _ => trivial)
  have hi : ∀ j, j < xs.length → ∃ x, (inner.drop (j * 1)).take 1 = [.int kk x] := fun j hj => ⟨_, hr.2 j _ (List.getElem?_eq_getElem hj)⟩
  refine ((hs.block (k0 := g) (g := ⟨q, 0, xs.length, cap, inner⟩) id rfl (by subst he; rw [hz]; exact own0 ho) (fun s _ _ => ⟨show xs.length ≤ _ by omega, fun _ => hl, fun i hi' => ?_, fun u hu => ?_⟩) (fun _ _ _ _ => trivial)).weak (P' := fun k => (Value.slice (some ⟨g, 0, none⟩) xs.length cap).ownBlock = some k) (fun k hk => ?_)).imp (fun s _ hs => ⟨.inr ⟨g, _, rfl, hs.2, rfl, rfl⟩, fun k e => e⟩)
  ·obtain ⟨x, hx⟩ := hi i hi'
   show TyE s q ((inner.drop (i * esz q)).take (esz q))
   rw [hz, hx]; exact hq s x
  ·obtain ⟨i, hi', rfl⟩ := List.getElem_of_mem hu
   have hil : i < xs.length := by have := ho.1; have e1 : (Kd.int kk).sz = 1 := rfl; rw [e1] at this; have h2 : i < inner.length := hi'; omega
   obtain ⟨x, hx⟩ := hi i hil
   have := drop_at hx (j := 0) (by simp)
   rw [Nat.mul_one, Nat.add_zero, List.getElem?_eq_getElem hi'] at this
   have e2 : inner[i] = .int kk x := by simpa using this
   rw [e2]; rfl
  ·rcases hk with hk | rfl
   ·exact hk.elim
   ·rfl
/-- A row of slices, each of which can be handed over. -/
theorem st_list {α : Type} {de : Kd α} {q e b N NN : Nat} {E : (Nat → Option Bl) → Value → (Nat → Prop) → Prop} {ok : Nat → Prop} {v : Value} {xs : List α} (hsz : de.sz = 1) (he : ety q = e) (hz : esz q = 1)
  (hst : ∀ ok x cs, x ∈ xs → de.M w b ok x cs → ∃ vi, cs = [vi] ∧ Stp m w bk V X R d ok (fun s => E s vi ok)) (hF : ∀ v T, Far T (fun s => E s v T)) (hrd : ∀ s v T, Typ s → E s v T → TyE s q [v] ∧ v.oneCell' = true)
  (h : Rsp de e w b ok v xs N) (hl : xs.length ≤ NN) (hN : NN ≤ 1073741824) : Stp m w bk V X R d ok (fun s => ∃ A n c L F, GvL q E NN s v ok A n c L F) := by
 obtain ⟨l, rfl, hinc, h0, inner, ho, hr⟩ := h
 rcases ho.2 with ⟨rfl, hn⟩ | ⟨g, cap, cur, rfl, -⟩
 ·have hl0 : l = [] := List.eq_nil_of_length_eq_zero hn
  subst hl0
  exact Stp.none_ (fun s => ⟨none, 0, 0, [], fun _ _ => False, ⟨rfl, .inl ⟨rfl, rfl, rfl, rfl⟩⟩, rfl, fun i x hx => by simp at hx, fun i j k _ _ h => h.elim, fun k e => by simp [Value.ownBlock] at e, fun i k _ h => h.elim, fun i k _ h => h.elim, Nat.zero_le _⟩)
 ·have hln : inner.length = l.length := by have := ho.1; rw [show (tag de).sz = 1 from hsz] at this; omega
  obtain ⟨F, hFd⟩ : ∃ F : Nat → Nat → Prop, F = fun i k => ∃ t, l[i]? = some t ∧ (ok k ∧ some k ≠ (Value.slice (some ⟨g, 0, none⟩) l.length cap).ownBlock) ∧ t.2.1 ≤ k ∧ k < t.2.2 := ⟨_, rfl⟩
  have hel : ∀ i, i < l.length → ∃ vi, inner[i]? = some vi ∧ Stp m w bk V X R d (F i) (fun s => E s vi (F i)) := fun i hi => by
   have ht := List.getElem?_eq_getElem hi
   have hm := hr.2 i _ ht
   obtain ⟨vi, e1, h2⟩ := hst _ _ _ (List.mem_map.2 ⟨_, List.getElem_mem hi, rfl⟩) hm
   rw [show (tag de).sz = 1 from hsz, Nat.mul_one] at e1
   have h3 := drop_at e1 (j := 0) (by simp)
   rw [Nat.add_zero] at h3
   refine ⟨vi, h3.trans rfl, ?_⟩
   have eF : F i = fun k => (ok k ∧ some k ≠ (Value.slice (some ⟨g, 0, none⟩) l.length cap).ownBlock) ∧ (l[i]).2.1 ≤ k ∧ k < (l[i]).2.2 := by
    rw [hFd]; funext k
    refine propext ⟨fun ⟨t, h1, h2⟩ => ?_, fun h2 => ⟨_, ht, h2⟩⟩
    rw [ht] at h1; cases h1; exact h2
   rw [eF]; exact h2
  have hne : ∀ i j k, i < j → j < l.length → F i k → ¬ F j k := fun i j k hij hj hi' hj' => by
   rw [hFd] at hi' hj'
   obtain ⟨t, h1, h2⟩ := hi'
   obtain ⟨u, k1, k2⟩ := hj'
   have hil : i < l.length := by omega
   have e1 := List.getElem?_eq_getElem hil
   rw [e1] at h1; cases h1
   have e2 := List.getElem?_eq_getElem hj
   rw [e2] at k1; cases k1
   have := List.pairwise_iff_getElem.1 hinc.1 i j hil hj hij
   omega
  obtain ⟨W, hW⟩ : ∃ W : Nat → Value, ∀ i, i < l.length → inner[i]? = some (W i) ∧ Stp m w bk V X R d (F i) (fun s => E s (W i) (F i)) := ⟨fun i => inner.getD i (.slice none 0 0), fun i hi => by
   obtain ⟨vi, h1, h2⟩ := hel i hi
   have : inner.getD i (.slice none 0 0) = vi := by rw [List.getD_eq_getElem?_getD, h1]; rfl
   show inner[i]? = some (inner.getD i (.slice none 0 0)) ∧ Stp m w bk V X R d (F i) (fun s => E s (inner.getD i (.slice none 0 0)) (F i))
   rw [this]; exact ⟨h1, h2⟩⟩
  have hok : ∀ i k, i < l.length → F i k → ok k ∧ k ≠ g := fun i k _ h => by
   rw [hFd] at h
   obtain ⟨t, -, h2, -⟩ := h
   exact ⟨h2.1, fun e => h2.2 (by rw [e]; rfl)⟩
  have s1 := Stp.seq (m := m) (w := w) (bk := bk) (V := V) (X := X) (R := R) (d := d) (F := F) (E := fun i s => E s (W i) (F i)) l.length (fun i hi => (hW i hi).2) hne (fun i _ => hF _ _)
  have hlen : l.length ≤ NN := by simpa using hl
  have hg2 := s1.block (k0 := g) (g := ⟨q, 0, l.length, cap, inner⟩) (fun ⟨i, hi, hk⟩ => (hok i g hi hk).2 rfl) rfl (by
   subst he; rw [hz]
   have := own0 ho
   rw [show (tag de).sz = 1 from hsz] at this
   exact this) (fun s ha hs => ⟨show l.length ≤ _ by omega, fun _ => show l.length ≤ _ by omega, fun i hi' => ?_, fun u hu => ?_⟩) (fun s s' hs hk i hi => hF _ _ s s' (hs i hi) (fun k hk' => hk k ⟨i, hi, hk'⟩))
  ·refine (hg2.weak (P' := ok) (fun k hk => ?_)).imp (fun s ha hs => ⟨_, l.length, cap, inner, F, ⟨rfl, .inr ⟨g, rfl, hs.2⟩⟩, hln, fun i x hx => ?_, hne, fun k e => h0 k e, fun i k hi hk => (hok i k hi hk).1, fun i k hi hk e => (hok i k hi hk).2 (Option.some.inj (show some g = some k from e)).symm, hlen⟩)
   ·rcases hk with ⟨i, hi, hk⟩ | rfl
    ·exact (hok i k hi hk).1
    ·exact h0 k rfl
   ·have hi : i < l.length := by have := (List.getElem?_eq_some_iff.1 hx).1; omega
    have := (hW i hi).1
    rw [hx] at this; cases this
    exact hs.1 i hi
  ·have hi : i < l.length := hi'
   have h3 := (hW i hi).1
   obtain ⟨hb1, hb2⟩ := List.getElem?_eq_some_iff.1 h3
   show TyE s q ((inner.drop (i * esz q)).take (esz q))
   rw [hz, Nat.mul_one, List.drop_eq_getElem_cons hb1, hb2]
   exact (hrd s _ _ ha.ty (hs i hi)).1
  ·obtain ⟨i, hi', rfl⟩ := List.getElem_of_mem hu
   have h2 : i < inner.length := hi'
   have hi : i < l.length := by omega
   have h3 := (hW i hi).1
   rw [List.getElem?_eq_getElem h2] at h3
   have h4 : inner[i] = W i := by simpa using h3
   show (inner[i]).oneCell' = true
   rw [h4]
   exact (hrd s _ _ ha.ty (hs i hi)).2
/-- A row of lists of whole numbers. -/
theorem st_lists {b N NN : Nat} {ok : Nat → Prop} {v : Value} {xs : List (List Int)} (h : Rsp (Kd.slice 3 (Kd.int .i64)) 25 w b ok v xs N) (hl : xs.length ≤ NN) (hN : NN ≤ 1073741824) (hx : ∀ x ∈ xs, x.length ≤ 1073741824) : Stp m w bk V X R d ok (fun s => Gv9 NN s v ok) :=
 st_list (q := 9) (E := Gv 1) rfl rfl rfl (fun ok x cs hm hM => by
  obtain ⟨vi, rfl, hR⟩ := hM
  exact ⟨vi, rfl, ((st_int (q := 1) rfl rfl (fun s x => ⟨x, rfl⟩) hR (hx x hm)).weak (fun k e => hR.1 k e)).imp (fun s _ hs => ⟨hs.1, fun k e => hR.1 k e⟩)⟩) (fun _ _ => Gv.fr) (fun s v T ht hg => ⟨⟨v, rfl, (hg.rd ht).1⟩, (hg.rd ht).2⟩) h hl hN
theorem st_slots {b N NN : Nat} {ok : Nat → Prop} {v : Value} {xs : List (List (List Int))} (h : Rsp (fsl 25 (Kd.slice 3 (Kd.int .i64))) 26 w b ok v xs N) (hl : xs.length ≤ NN) (hN : NN ≤ 1073741824) (hx : ∀ x ∈ xs, x.length ≤ NN ∧ ∀ y ∈ x, y.length ≤ 1073741824) : Stp m w bk V X R d ok (fun s => Gv11 NN s v ok) :=
 st_list (q := 11) (E := Gv9 NN) rfl rfl rfl (fun ok x cs hm hM => by
  obtain ⟨vi, N', rfl, hR⟩ := hM
  exact ⟨vi, rfl, st_lists hR (hx x hm).1 hN (hx x hm).2⟩) (fun _ _ => Gv9.fr) (fun s v T ht hg => ⟨⟨v, rfl, (hg.rd ht).1⟩, (hg.rd ht).2⟩) h hl hN
theorem own_ty {e e' b b' n n' : Nat} {v v' : Value} {xs xs' : List Value} {k : Nat} (h : w.ownsRow b e 1 v n xs) (h' : w.ownsRow b' e' 1 v' n' xs') (hk : v.ownBlock = some k) (hk' : v'.ownBlock = some k) : e = e' := by
 obtain ⟨c1, e1⟩ := own_typed h k hk
 obtain ⟨c2, e2⟩ := own_typed h' k hk'
 rw [e1] at e2; injection e2 with e2; injection e2
/-- A row of objects. -/
theorem st_objs {b N NN : Nat} {ok : Nat → Prop} {v : Value} {xs : List S66} (h : Rsp k66 66 w b ok v xs N) (hl : xs.length ≤ NN) (hN : NN ≤ 1073741824) (hx : ∀ x ∈ xs, x.f3.length ≤ 1073741824 ∧ x.f4.length ≤ 1073741824) : Stp m w bk V X R d ok (fun s => Gv12 NN s v ok) := by
 obtain ⟨l, rfl, hinc, h0, inner, ho, hr⟩ := h
 have hlen : l.length ≤ NN := by simpa using hl
 rcases ho.2 with ⟨rfl, hn⟩ | ⟨g, cap, cur, rfl, -⟩
 ·have hl0 : l = [] := List.eq_nil_of_length_eq_zero hn
  subst hl0
  exact Stp.none_ (fun s => ⟨none, 0, 0, [], fun _ _ => False, fun _ _ => False, ⟨rfl, .inl ⟨rfl, rfl, rfl, rfl⟩⟩, fun i hi => by omega, fun i j k _ _ h => h.elim, fun i j k _ _ h => h.elim, fun i j k _ _ h => h.elim, fun k e => by simp [Value.ownBlock] at e, fun i k _ h => h.elim False.elim False.elim, fun i k _ h => h.elim False.elim False.elim, Nat.zero_le _⟩)
 ·have hln : inner.length = l.length * 5 := ho.1
  have hel : ∀ i, i < l.length → ∃ a b' c' p r, (inner.drop (i * 5)).take 5 = [.int .u64 a, .int .i64 b', .int .i64 c', p, r] ∧ (∀ k, p.ownBlock = some k ∨ r.ownBlock = some k → (ok k ∧ k ≠ g) ∧ (l.getD i (⟨0, 0, 0, [], []⟩, 0, 0)).2.1 ≤ k ∧ k < (l.getD i (⟨0, 0, 0, [], []⟩, 0, 0)).2.2) ∧ (∀ k, p.ownBlock = some k → r.ownBlock ≠ some k) ∧ Stp m w bk V X R d (fun k => p.ownBlock = some k) (fun s => Gv 1 s p (fun k => p.ownBlock = some k)) ∧ Stp m w bk V X R d (fun k => r.ownBlock = some k) (fun s => Gv 3 s r (fun k => r.ownBlock = some k)) := fun i hi => by
   have ht := List.getElem?_eq_getElem hi
   have hm := hr.2 i _ ht
   obtain ⟨p, r, e1, hp, hr4⟩ := k66_openM hm
   have hxi := hx (l[i]).1 (List.mem_map.2 ⟨_, List.getElem_mem hi, rfl⟩)
   have hgd : l.getD i (⟨0, 0, 0, [], []⟩, 0, 0) = l[i] := by rw [List.getD_eq_getElem?_getD, ht]; rfl
   refine ⟨_, _, _, p, r, e1, fun k hk => ?_, fun k h1 h2 => ?_, st_int (q := 1) rfl rfl (fun s x => ⟨x, rfl⟩) hp hxi.1, st_int (q := 3) rfl rfl (fun s x => ⟨x, rfl⟩) hr4 hxi.2⟩
   ·rw [hgd]
    have : (ok k ∧ some k ≠ (Value.slice (some ⟨g, 0, none⟩) l.length cap).ownBlock) ∧ (l[i]).2.1 ≤ k ∧ k < (l[i]).2.2 := hk.elim (hp.1 k) (hr4.1 k)
    exact ⟨⟨this.1.1, fun e => this.1.2 (by rw [e]; rfl)⟩, this.2⟩
   ·obtain ⟨-, i1, o1, -⟩ := hp
    obtain ⟨-, i2, o2, -⟩ := hr4
    exact absurd (own_ty o1 o2 h1 h2) (by decide)
  obtain ⟨Wp, hWp⟩ : ∃ Wp : Nat → Value, Wp = fun i => inner.getD (i * 5 + 3) (.slice none 0 0) := ⟨_, rfl⟩
  obtain ⟨Wr, hWr⟩ : ∃ Wr : Nat → Value, Wr = fun i => inner.getD (i * 5 + 4) (.slice none 0 0) := ⟨_, rfl⟩
  have hW : ∀ i, i < l.length → inner[i * 5 + 3]? = some (Wp i) ∧ inner[i * 5 + 4]? = some (Wr i) ∧ (∃ a b' c', (inner.drop (i * 5)).take 5 = [.int .u64 a, .int .i64 b', .int .i64 c', Wp i, Wr i]) ∧ (∀ k, (Wp i).ownBlock = some k ∨ (Wr i).ownBlock = some k → (ok k ∧ k ≠ g) ∧ (l.getD i (⟨0, 0, 0, [], []⟩, 0, 0)).2.1 ≤ k ∧ k < (l.getD i (⟨0, 0, 0, [], []⟩, 0, 0)).2.2) ∧ (∀ k, (Wp i).ownBlock = some k → (Wr i).ownBlock ≠ some k) ∧ Stp m w bk V X R d (fun k => (Wp i).ownBlock = some k) (fun s => Gv 1 s (Wp i) (fun k => (Wp i).ownBlock = some k)) ∧ Stp m w bk V X R d (fun k => (Wr i).ownBlock = some k) (fun s => Gv 3 s (Wr i) (fun k => (Wr i).ownBlock = some k)) := fun i hi => by
   obtain ⟨a, b', c', p, r, e1, e2, e3, e4, e5⟩ := hel i hi
   have h3 := drop_at e1 (j := 3) (by simp)
   have h4 := drop_at e1 (j := 4) (by simp)
   have hp : Wp i = p := by rw [hWp]; show inner.getD (i * 5 + 3) _ = p; rw [List.getD_eq_getElem?_getD, h3]; rfl
   have hr' : Wr i = r := by rw [hWr]; show inner.getD (i * 5 + 4) _ = r; rw [List.getD_eq_getElem?_getD, h4]; rfl
   rw [hp, hr']
   exact ⟨h3.trans rfl, h4.trans rfl, ⟨a, b', c', e1⟩, e2, e3, e4, e5⟩
  have hsep : ∀ i j k, i < j → j < l.length → ((Wp i).ownBlock = some k ∨ (Wr i).ownBlock = some k) → ¬ ((Wp j).ownBlock = some k ∨ (Wr j).ownBlock = some k) := fun i j k hij hj h1 h2 => by
   have hil : i < l.length := by omega
   have a1 := ((hW i hil).2.2.2.1 k h1).2
   have a2 := ((hW j hj).2.2.2.1 k h2).2
   rw [List.getD_eq_getElem?_getD, List.getElem?_eq_getElem hil] at a1
   rw [List.getD_eq_getElem?_getD, List.getElem?_eq_getElem hj] at a2
   have := List.pairwise_iff_getElem.1 hinc.1 i j hil hj hij
   simp only [Option.getD_some] at a1 a2
   omega
  have hfr : ∀ i, Far (fun k => (Wp i).ownBlock = some k ∨ (Wr i).ownBlock = some k) (fun s => Gv 1 s (Wp i) (fun k => (Wp i).ownBlock = some k) ∧ Gv 3 s (Wr i) (fun k => (Wr i).ownBlock = some k)) := fun i s s' hs hk => ⟨Gv.fr s s' hs.1 (fun k e => hk k (.inl e)), Gv.fr s s' hs.2 (fun k e => hk k (.inr e))⟩
  have s1 := Stp.seq (m := m) (w := w) (bk := bk) (V := V) (X := X) (R := R) (d := d) (F := fun i k => (Wp i).ownBlock = some k ∨ (Wr i).ownBlock = some k) (E := fun i s => Gv 1 s (Wp i) (fun k => (Wp i).ownBlock = some k) ∧ Gv 3 s (Wr i) (fun k => (Wr i).ownBlock = some k)) l.length (fun i hi => (hW i hi).2.2.2.2.2.1.and_ (hW i hi).2.2.2.2.2.2 (hW i hi).2.2.2.2.1 Gv.fr) hsep (fun i _ => hfr i)
  have hg2 := s1.block (k0 := g) (g := ⟨12, 0, l.length, cap, inner⟩) (fun ⟨i, hi, hk⟩ => ((hW i hi).2.2.2.1 g hk).1.2 rfl) rfl (own0 ho) (fun s ha hs => ⟨show l.length ≤ _ by omega, fun _ => show l.length ≤ _ by omega, fun i hi' => ?_, fun u hu => ?_⟩) (fun s s' hs hk i hi => hfr i s s' (hs i hi) (fun k hk' => hk k ⟨i, hi, hk'⟩))
  ·refine (hg2.weak (P' := ok) (fun k hk => ?_)).imp (fun s ha hs => ⟨_, l.length, cap, inner, fun i k => (Wp i).ownBlock = some k, fun i k => (Wr i).ownBlock = some k, ⟨rfl, .inr ⟨g, rfl, hs.2⟩⟩, fun i hi => ⟨Wp i, Wr i, (hW i hi).1, (hW i hi).2.1, hs.1 i hi⟩, fun i j k h1 h2 h3 h4 => hsep i j k h1 h2 (.inl h3) (.inl h4), fun i j k h1 h2 h3 h4 => hsep i j k h1 h2 (.inr h3) (.inr h4), fun i j k h1 h2 h3 h4 => ?_, fun k e => h0 k e, fun i k hi hk => ((hW i hi).2.2.2.1 k hk).1.1, fun i k hi hk e => ((hW i hi).2.2.2.1 k hk).1.2 (Option.some.inj (show some g = some k from e)).symm, hlen⟩)
   ·rcases hk with ⟨i, hi, hk⟩ | rfl
    ·exact ((hW i hi).2.2.2.1 k hk).1.1
    ·exact h0 k rfl
   ·rcases Nat.lt_trichotomy i j with e | e | e
    ·exact hsep i j k e h2 (.inl h3) (.inr h4)
    ·subst e; exact (hW i h1).2.2.2.2.1 k h3 h4
    ·exact hsep j i k e h1 (.inr h4) (.inl h3)
  ·have hi : i < l.length := hi'
   obtain ⟨a, b', c', e⟩ := (hW i hi).2.2.1
   show TyE s 12 ((inner.drop (i * 5)).take 5)
   rw [e]
   exact ⟨a, b', c', _, _, rfl, ((hs i hi).1.rd ha.ty).1, ((hs i hi).2.rd ha.ty).1⟩
  ·obtain ⟨i, hi', rfl⟩ := List.getElem_of_mem hu
   have h2 : i < inner.length := hi'
   have hi : i / 5 < l.length := by omega
   obtain ⟨a, b', c', e⟩ := (hW (i / 5) hi).2.2.1
   have h3 := drop_at e (j := i % 5) (by simp; omega)
   rw [show i / 5 * 5 + i % 5 = i by omega, List.getElem?_eq_getElem h2] at h3
   have hm : inner[i] ∈ [Value.int .u64 a, .int .i64 b', .int .i64 c', Wp (i / 5), Wr (i / 5)] := List.mem_of_getElem? h3.symm
   show (inner[i]).oneCell' = true
   simp only [List.mem_cons, List.not_mem_nil, or_false] at hm
   rcases hm with e1 | e1 | e1 | e1 | e1 <;> rw [e1]
   ·rfl
   ·rfl
   ·rfl
   ·exact ((hs (i / 5) hi).1.rd ha.ty).2
   ·exact ((hs (i / 5) hi).2.rd ha.ty).2
/-- A graph's sizes. -/
structure Szs (N : Nat) (g : Gr) : Prop where
 o : g.objs.length ≤ N ∧ ∀ x ∈ g.objs, x.f3.length ≤ 1073741824 ∧ x.f4.length ≤ 1073741824
 s : g.slots.length ≤ N ∧ ∀ x ∈ g.slots, x.length ≤ N ∧ ∀ y ∈ x, y.length ≤ 1073741824
 h : g.handles.length ≤ 1073741824
 r : g.registry.length ≤ 1073741824
 q : g.queue.length ≤ 1073741824
theorem Gv11.fr {N : Nat} {v : Value} {T : Nat → Prop} : Far T (fun s => Gv11 N s v T) := fun s s' h hk => h.far (fun k g e1 e2 => (hk k e2).trans e1)
theorem Gv12.fr {N : Nat} {v : Value} {T : Nat → Prop} : Far T (fun s => Gv12 N s v T) := fun s s' h hk => by
 obtain ⟨A, n, c, L, F, G, h⟩ := h
 exact ⟨A, n, c, L, F, G, h.far (fun k g e1 e2 => (hk k e2).trans e1)⟩
theorem st_ints {b : Nat} {ok : Nat → Prop} {v : Value} {xs : List Int} (h : (Kd.int .i64).R 3 w b ok v xs) (hl : xs.length ≤ 1073741824) : Stp m w bk V X R d ok (fun s => Gv 1 s v ok) :=
 ((st_int (q := 1) rfl rfl (fun s x => ⟨x, rfl⟩) h hl).weak (fun k e => h.1 k e)).imp (fun s _ hs => ⟨hs.1, fun k e => h.1 k e⟩)
theorem All.free {w0 : World} {s : Nat → Option Bl} (h : All m w0 bk s V X R d) : ∀ k, w0.heap.size ≤ k → Free m bk V s k := fun k hk => ⟨h.sh.fresh hk, by have := h.sh.blt; omega, fun j e => by have := h.sh.lt j k e; omega, h.sh.up k hk⟩
/-- What Read handed back is handed over. -/
theorem hand_graph {w0 : World} {s : Nat → Option Bl} {N : Nat} {g : Gr} {v0 v1 v2 v3 v4 : Value} (hw : All m w bk s V X R d) (hfree : ∀ k, w0.heap.size ≤ k → Free m bk V s k) (hg : GotA w0 w g v0 v1 v2 v3 v4) (hz : Szs N g) (hN : N ≤ 1073741824) :
  ∃ s' T, All m w bk s' V X R d ∧ GvG N s' v0 v1 v2 v3 v4 T := by
 obtain ⟨l0, u0, l1, u1, l2, u2, l4, u4, l3, u3, i0, i1, i2, i4, i3⟩ := hg.ap
 have b0 := i0.lo; have c0 := i0.lu; have b1 := i1.lo; have c1 := i1.lu; have b2 := i2.lo; have c2 := i2.lu; have b4 := i4.lo; have c4 := i4.lu; have b3 := i3.lo; have c3 := i3.lu
 have s0 := st_objs (m := m) (bk := bk) (V := V) (X := X) (R := R) (d := d) i0.row hz.o.1 hN hz.o.2
 have s1 := st_slots (m := m) (bk := bk) (V := V) (X := X) (R := R) (d := d) i1.row hz.s.1 hN hz.s.2
 have s2 := st_ints (m := m) (bk := bk) (V := V) (X := X) (R := R) (d := d) i2.row.toR hz.h
 have s4 := st_ints (m := m) (bk := bk) (V := V) (X := X) (R := R) (d := d) i4.row.toR hz.q
 have s3 := st_ints (m := m) (bk := bk) (V := V) (X := X) (R := R) (d := d) i3.row.toR hz.r
 have a1 := s0.and_ s1 (fun k h1 h2 => by omega) Gv12.fr
 have a2 := a1.and_ s2 (fun k h1 h2 => by rcases h1 with h1 | h1 <;> omega) (fun s s' hs hk => ⟨Gv12.fr s s' hs.1 (fun k e => hk k (.inl e)), Gv11.fr s s' hs.2 (fun k e => hk k (.inr e))⟩)
 have a3 := a2.and_ s4 (fun k h1 h2 => by rcases h1 with (h1 | h1) | h1 <;> omega) (fun s s' hs hk => ⟨⟨Gv12.fr s s' hs.1.1 (fun k e => hk k (.inl (.inl e))), Gv11.fr s s' hs.1.2 (fun k e => hk k (.inl (.inr e)))⟩, Gv.fr s s' hs.2 (fun k e => hk k (.inr e))⟩)
 have a4 := a3.and_ s3 (fun k h1 h2 => by rcases h1 with ((h1 | h1) | h1) | h1 <;> omega) (fun s s' hs hk => ⟨⟨⟨Gv12.fr s s' hs.1.1.1 (fun k e => hk k (.inl (.inl (.inl e)))), Gv11.fr s s' hs.1.1.2 (fun k e => hk k (.inl (.inl (.inr e))))⟩, Gv.fr s s' hs.1.2 (fun k e => hk k (.inl (.inr e)))⟩, Gv.fr s s' hs.2 (fun k e => hk k (.inr e))⟩)
 obtain ⟨s', h1, ⟨⟨⟨⟨e0, e1⟩, e2⟩, e4⟩, e3⟩, -⟩ := a4 s hw (fun k hk => hfree k (by rcases hk with (((hk | hk) | hk) | hk) | hk <;> omega))
 refine ⟨s', fun i k => if i = 0 then l0 ≤ k ∧ k < u0 else if i = 1 then l1 ≤ k ∧ k < u1 else if i = 2 then l2 ≤ k ∧ k < u2 else if i = 3 then l3 ≤ k ∧ k < u3 else if i = 4 then l4 ≤ k ∧ k < u4 else False, h1, ⟨e0, e1, e2, e3, e4, fun i j k hij h1 h2 => ?_⟩⟩
 have hj5 : j < 5 := by
  rcases Nat.lt_or_ge j 5 with hj | hj
  ·exact hj
  ·rw [if_neg (by omega), if_neg (by omega), if_neg (by omega), if_neg (by omega), if_neg (by omega)] at h2
   exact h2.elim
 rcases (show i = 0 ∨ i = 1 ∨ i = 2 ∨ i = 3 by omega) with rfl | rfl | rfl | rfl
 ·rcases (show j = 1 ∨ j = 2 ∨ j = 3 ∨ j = 4 by omega) with rfl | rfl | rfl | rfl <;> simp at h1 h2 <;> omega
 ·rcases (show j = 2 ∨ j = 3 ∨ j = 4 by omega) with rfl | rfl | rfl <;> simp at h1 h2 <;> omega
 ·rcases (show j = 3 ∨ j = 4 by omega) with rfl | rfl <;> simp at h1 h2 <;> omega
 ·obtain rfl : j = 4 := by omega
  simp at h1 h2; omega
end
end Go.Proofs.YtihjjkoddphmiaaGreatDoor.bk
