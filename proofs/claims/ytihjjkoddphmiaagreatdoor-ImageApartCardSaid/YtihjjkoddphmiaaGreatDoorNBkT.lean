/-
  The Book of middenkept: what a grow.. works on (no program in sight).
-/
import Derived.Test.YtihjjkoddphmiaaGreatDoorNBkR
namespace Go.Proofs.YtihjjkoddphmiaaGreatDoor.bk
open Go.RowKit Go.Proofs.YtihjjkoddphmiaaGreatDoorW.PrintWords
set_option linter.unusedVariables false
set_option linter.unusedSimpArgs false
/-- append(v, x): in v's own block, or in a new one (and then v's stays). -/
theorem run_append_fine {P : Program} (w : World) (t ty e : TypeId) (i : TypeInfo) (z : Value) (size bytes : Nat) (ht : P.underlying t = some (.slice e)) (hi : P.info? e = some i) (hz : i.zero = some z)
  (hsize : i.size = size) (hby : i.bytes = bytes) (hzs : z.cells.size = size) (hsz : 0 < size) (v : Value) (n : Nat) (xs : List Value) (hown : w.ownsRow 0 e size v n xs)
  (a : Addr) (c : Nat) (news : List Value) (hl : news.length = size) (hnews : ∀ j u, news[j]? = some u → w.cell? (a.add j) = some u) (h1 : ∀ u ∈ news, u.oneCell' = true) (h63 : n + 1 ≤ maxLen) (hbytes : (n + 1) * bytes ≤ 140737488355328) :
  ∃ v' w', (Builtin.append_ #[t, t] ty #[v, .slice (some a) 1 c]).run P w = .ok v' w' ∧ w'.ownsRow 0 e size v' (n + 1) (xs ++ news) ∧ ((∃ k cap, v = .slice (some ⟨k, 0, none⟩) n cap ∧ v' = .slice (some ⟨k, 0, none⟩) (n + 1) cap ∧ w.grownBy w' (some k)) ∨ (∃ cap, v' = .slice (some ⟨w.heap.size, 0, none⟩) (n + 1) cap ∧ w.grownBy w' none)) := by
 obtain ⟨v', w', hr, h2, h3, -, -⟩ := run_append_own_at (P := P) w 0 t ty e i z size bytes ht hi hz hsize hby hzs hsz v n xs hown a 1 c news (by simpa using hl) hnews h1 h63 hbytes (Nat.zero_le _)
 refine ⟨v', w', hr, h2, ?_⟩
 subst hsize hby
 have h63' : ((n + 1 : Nat) : Int) ≤ 9223372036854775807 := by simp only [maxLen] at h63; omega
 have gn : ∀ o, w.grownBy (w.drew.alloc o) none := fun o => (grown_drew w).trans (grown_alloc _ o)
 rcases hown.2 with ⟨rfl, rfl⟩ | ⟨g, cap, cur, rfl, -, hg, hnc, hcm, hcs, htake⟩
 ·have h := run_append_nil (P := P) w t ty e i z ht hi hz a 1 c news (by simpa using hl) hnews (by omega) (by omega) (by omega)
  rw [hr] at h
  injection h with e1 e2
  subst e1 e2
  exact .inr ⟨_, rfl, gn _⟩
 ·by_cases hroom : n + 1 ≤ cap
  ·have hfit : n * i.size + news.length ≤ cur.size := by rw [hl, hcs, ← Nat.succ_mul]; exact Nat.mul_le_mul_right _ hroom
   have h := run_append_room (P := P) w t ty e i ht hi g n cap cur hg a 1 c news (by simpa using hl) hnews h1 hroom hfit
   rw [hr] at h
   injection h with e1 e2
   subst e1
   exact .inl ⟨g, cap, rfl, rfl, h3⟩
  ·have holds : ∀ j u, xs[j]? = some u → w.cell? ((⟨g, 0, none⟩ : Addr).add j) = some u := hown.cells (g := g) rfl
   have h := run_append_grow (P := P) w t ty e i z ht hi hz ⟨g, 0, none⟩ n cap xs hown.1 holds a 1 c news (by simpa using hl) hnews (by omega) h63' (growslice_fits (by omega) hbytes)
   rw [hr] at h
   injection h with e1 e2
   subst e1 e2
   exact .inr ⟨_, rfl, gn _⟩
/-- The list v, that was written over (s1), grows; gv: where it stands. -/
structure Gw (m : Nat → Prop) (bk q : Nat) (s1 : Nat → Option Bl) (V : Nat → Value) (X : Nat → List Value) (w0 : World) (v : Value) (s2 : Nat → Option Bl) (gv : Value) (A : Option Addr) (n c : Nat) (L : List Value) (wr : World) : Prop where
 sh : Sh m wr bk s2 V X
 ty : Typ s2
 vl : Vl s2 q 3 gv A n c L
 old : ∀ k g, s1 k = some g → v.ownBlock ≠ some k → s2 k = some g
 hv : ∀ k g, v.ownBlock = some k → s1 k = some g → ∃ g', s2 k = some g' ∧ g'.kd = g.kd ∧ 2 ≤ g'.role ∧ g.n ≤ g'.n ∧ g'.L.take (g.n * esz q) = g.L.take (g.n * esz q)
 own : ∀ k, gv.ownBlock = some k → v.ownBlock = some k ∨ s1 k = none
 fr : Fr m w0 wr
section
variable {m : Nat → Prop} {w0 wr w1 : World} {bk q n c : Nat} {s1 s2 : Nat → Option Bl} {V : Nat → Value} {X : Nat → List Value} {v gv : Value} {A : Option Addr} {L cs : List Value}
theorem Gw.start (h : Sh m w0 bk s1 V X) (ht : Typ s1) (hv : Vl s1 q 2 v A n c L) : ∃ s2, Gw m bk q s1 V X w0 v s2 v A n c L w0 := by
 obtain ⟨rfl, ⟨rfl, rfl, rfl, rfl⟩ | ⟨k, rfl, hk⟩⟩ := hv
 ·exact ⟨s1, h, ht, ⟨rfl, .inl ⟨rfl, rfl, rfl, rfl⟩⟩, fun _ _ e _ => e, fun k g e => by simp [Value.ownBlock] at e, fun k e => by simp [Value.ownBlock] at e, Fr.refl _ _⟩
 ·have hT := ht.at hk
  have hle := Le.change (g2 := ⟨q, 3, n, c, L⟩) hk rfl (Nat.le_refl _)
  refine ⟨_, h.change hk (g2 := ⟨q, 3, n, c, L⟩) (grown_refl _ _) (h.fit k _ hk).2, ht.put hle ⟨hT.le, fun h3 => by simp at h3, fun i hi => (hT.el i hi).mono hle, hT.one⟩, ⟨rfl, .inr ⟨k, rfl, upd_same _ _ _⟩⟩, fun i g e1 e2 => by rw [upd_ne _ _ (fun e => e2 (by rw [e]; rfl))]; exact e1, fun i g e1 e2 => ?_, fun i e => .inl e, Fr.refl _ _⟩
  obtain rfl : k = i := by simpa [Value.ownBlock] using e1
  rw [hk] at e2; cases e2
  exact ⟨_, upd_same _ _ _, rfl, by simp, Nat.le_refl _, rfl⟩
theorem Gw.new (h : Gw m bk q s1 V X w0 v s2 gv A n c L wr) {k : Nat} {g : Bl} (hn : wr.heap.size ≤ k) (hg : wr.grownBy w1 none) (ho : w1.ownsRow 0 (ety g.kd) (esz g.kd) (.slice (some ⟨k, 0, none⟩) g.n g.cap) g.n g.L) (hT : TyL s2 g) : Gw m bk q s1 V X w0 v (upd s2 k (some g)) gv A n c L w1 := by
 have hf := h.sh.fresh hn
 have hne : ∀ i gi, s2 i = some gi → upd s2 k (some g) i = some gi := fun i gi hi => by rw [upd_ne _ _ (fun e => by rw [e, hf] at hi; cases hi)]; exact hi
 exact ⟨h.sh.new hn hg ho, h.ty.put (Le.new hf g) (hT.mono (Le.new hf g)), h.vl.far (fun i gi e1 _ => hne i gi e1), fun i gi e1 e2 => hne i gi (h.old i gi e1 e2), fun i gi e1 e2 => by
  obtain ⟨g', f1, f2⟩ := h.hv i gi e1 e2
  exact ⟨g', hne i g' f1, f2⟩, h.own, h.fr.then_ (h.sh.frS hg)⟩
theorem ty_snoc {s : Nat → Option Bl} {r r' c' : Nat} (hT : TyL s ⟨q, r, n, c, L⟩) (hl : L.length = n * esz q) (hc : TyE s q cs) (hcl : cs.length = esz q) (h1 : ∀ u ∈ cs, u.oneCell' = true) (hn : n + 1 ≤ 1099511627776) (hr : 2 < r') : TyL s ⟨q, r', n + 1, c', L ++ cs⟩ := by
 refine ⟨hn, fun h => by simp at h; omega, fun i hi => ?_, fun u hu => (List.mem_append.1 hu).elim (hT.one u) (h1 u)⟩
 have hi' : i < n + 1 := hi
 show TyE s q (((L ++ cs).drop (i * esz q)).take (esz q))
 by_cases e : i = n
 ·subst e
  rw [← hl, List.drop_left, ← hcl, List.take_length]; exact hc
 ·have hle : (i + 1) * esz q ≤ n * esz q := Nat.mul_le_mul_right _ (by omega)
  rw [Nat.add_mul, Nat.one_mul] at hle
  rw [List.drop_append_of_le_length (by omega), List.take_append_of_le_length (by simp; omega)]
  exact hT.el i (show i < n by omega)
/-- One element more. -/
theorem Gw.step (h : Gw m bk q s1 V X w0 v s2 gv A n c L wr) {v1 : Value} (ho : w1.ownsRow 0 (ety q) (esz q) v1 (n + 1) (L ++ cs)) (hc : TyE s2 q cs) (hcl : cs.length = esz q) (hz : 0 < esz q) (h1 : ∀ u ∈ cs, u.oneCell' = true) (hn : n + 1 ≤ 1099511627776)
  (hat : (∃ k cap, gv = .slice (some ⟨k, 0, none⟩) n cap ∧ v1 = .slice (some ⟨k, 0, none⟩) (n + 1) cap ∧ wr.grownBy w1 (some k)) ∨ (∃ k cap, v1 = .slice (some ⟨k, 0, none⟩) (n + 1) cap ∧ wr.heap.size ≤ k ∧ wr.grownBy w1 none)) :
  ∃ s3 A1 c1, v1 = .slice A1 (n + 1) c1 ∧ Gw m bk q s1 V X w0 v s3 v1 A1 (n + 1) c1 (L ++ cs) w1 := by
 have hTL : TyL s2 ⟨q, 3, n, c, L⟩ ∧ L.length = n * esz q := by
  obtain ⟨-, ⟨-, rfl, -, rfl⟩ | ⟨k, -, hk⟩⟩ := h.vl
  ·exact ⟨⟨by simp, fun _ => by simp, fun i hi => by simp at hi, fun u hu => by simp at hu⟩, by simp⟩
  ·exact ⟨h.ty.at hk, (h.sh.fit k _ hk).2.1⟩
 rcases hat with ⟨k, cap, e1, rfl, hg⟩ | ⟨k, cap, rfl, hk, hg⟩
 ·obtain ⟨rfl, ⟨rfl, -, -, -⟩ | ⟨k', rfl, hk⟩⟩ := h.vl
  ·cases e1
  ·injection e1 with e1 _ e2; injection e1 with e1; injection e1 with e1
   subst e1 e2
   have hle := Le.change (g2 := ⟨q, 3, n + 1, c, L ++ cs⟩) hk rfl (Nat.le_succ n)
   refine ⟨_, _, _, rfl, h.sh.change hk hg ho, h.ty.put hle ((ty_snoc hTL.1 hTL.2 hc hcl h1 hn (by decide)).mono hle), ⟨rfl, .inr ⟨k', rfl, upd_same _ _ _⟩⟩, fun i g f1 f2 => ?_, fun i g f1 f2 => ?_, h.own, h.fr.then_ (h.sh.frK hk hg)⟩
   ·have : i ≠ k' := fun e => by
     rcases h.own k' rfl with e2 | e2
     ·exact f2 (by rw [e]; exact e2)
     ·rw [e, e2] at f1; cases f1
    rw [upd_ne _ _ this]; exact h.old i g f1 f2
   ·obtain ⟨g', i1, i2, i3, i4, i5⟩ := h.hv i g f1 f2
    by_cases e : i = k'
    ·subst e
     rw [hk] at i1; cases i1
     refine ⟨_, upd_same _ _ _, i2, by simp, Nat.le_succ_of_le i4, ?_⟩
     rw [List.take_append_of_le_length (by rw [hTL.2]; exact Nat.mul_le_mul_right _ i4)]
     exact i5
    ·exact ⟨g', by rw [upd_ne _ _ e]; exact i1, i2, i3, i4, i5⟩
 ·have hf := h.sh.fresh hk
  have hle := Le.new hf (⟨q, 3, n + 1, cap, L ++ cs⟩ : Bl)
  have hne : ∀ i gi, s2 i = some gi → upd s2 k (some ⟨q, 3, n + 1, cap, L ++ cs⟩) i = some gi := fun i gi hi => by rw [upd_ne _ _ (fun e => by rw [e, hf] at hi; cases hi)]; exact hi
  refine ⟨_, _, _, rfl, h.sh.new hk hg ho, h.ty.put hle ((ty_snoc hTL.1 hTL.2 hc hcl h1 hn (by decide)).mono hle), ⟨rfl, .inr ⟨k, rfl, upd_same _ _ _⟩⟩, fun i g f1 f2 => hne i g (h.old i g f1 f2), fun i g f1 f2 => ?_, fun i e => ?_, h.fr.then_ (h.sh.frS hg)⟩
  ·obtain ⟨g', i1, i2⟩ := h.hv i g f1 f2
   exact ⟨g', hne i g' i1, i2⟩
  ·obtain rfl : k = i := by simpa [Value.ownBlock] using e
   refine .inr ?_
   cases hs : s1 k with
   | none => rfl
   | some g =>
    by_cases hv : v.ownBlock = some k
    ·obtain ⟨g', i1, -⟩ := h.hv k g hv hs
     rw [hf] at i1; cases i1
    ·have := h.old k g hs hv
     rw [hf] at this; cases this
end
section
variable {P : Program} {ops : Array Oper} {rest : List Oper} {o : Oper} {a : Act} {Q : Exit → Act → World → Prop}
variable {m : Nat → Prop} {w0 W : World} {bk q n c e : Nat} {s1 s2 : Nat → Option Bl} {V : Nat → Value} {X : Nat → List Value} {v gv : Value} {A : Option Addr} {L : List Value}
/-- g = append(g, x) in a plain region: behind at_builtin. -/
theorem grow_row (h : Gw m bk q s1 V X w0 v s2 gv A n c L W) (he : ety q = e) (hgd : o.guard = none) (sx x : Operand) (t : TypeId) (z : Value) (bytes : Nat) (cs : List Value)
  (ho : o.op = .call { callee := .builtin .append, args := #[sx, x], argTypes := #[t, t] })
  (ht : P.underlying t = some (.slice e)) (hinfo : (P.info? e).map (fun i => (i.zero, i.size, i.bytes)) = some (some z, esz q, bytes)) (hz : z.cells.size = esz q) (hsz : 0 < esz q) (hb0 : 0 < bytes)
  (hs : a.eval sx = gv) (hx : a.eval x = .slice (some ⟨W.heap.size, 0, none⟩) 1 1) (hc : TyE s2 q cs) (hcl : cs.length = esz q) (h1 : ∀ u ∈ cs, u.oneCell' = true) (hn : n + 1 ≤ 1099511627776) (hb : bytes ≤ 72)
  (hk : ∀ s3 A1 c1 w1, Aside0 (∃ L3, Gw m bk q s1 V X w0 v s3 (.slice A1 (n + 1) c1) A1 (n + 1) c1 L3 w1) → wpList P ops Q rest (a.put o.dst (.slice A1 (n + 1) c1)) w1) :
  wpList P ops Q (o :: rest) a (W.alloc (.cells cs.toArray e)) := by
 subst he
 obtain ⟨i0, hi, hzz⟩ := Option.map_eq_some_iff.1 hinfo
 simp only [Prod.mk.injEq] at hzz
 obtain ⟨hz0, hz1, hz2⟩ := hzz
 have hown : (W.alloc (.cells cs.toArray (ety q))).ownsRow 0 (ety q) (esz q) gv n L := by
  obtain ⟨rfl, ⟨rfl, rfl, rfl, rfl⟩ | ⟨k, rfl, hk⟩⟩ := h.vl
  ·exact World.ownsRow_nil _ _ _ _
  ·exact (h.sh.fit k _ hk).2.alloc _
 have hbb : (n + 1) * bytes ≤ 140737488355328 := Nat.le_trans (Nat.mul_le_mul hn hb) (by decide)
 refine wpList_plain hgd fun K hK => ?_
 obtain ⟨v1, w1, hr, h2, h3⟩ := run_append_fine (P := P) (W.alloc (.cells cs.toArray (ety q))) t o.type (ety q) i0 z (esz q) bytes ht hi hz0 hz1 hz2 hz hsz gv n L hown ⟨W.heap.size, 0, none⟩ 1 cs hcl
  (by simpa using World.news_of_block (cs := cs.toArray) (t := ety q) (fr := (0, 0)) (heap_alloc_new W (.cells cs.toArray (ety q)))) h1 (by simp only [maxLen]; omega) hbb
 obtain ⟨s3, A1, c1, rfl, h4⟩ := h.step h2 hc hcl hsz h1 hn (by
  rcases h3 with ⟨k, cap, e1, e2, e3⟩ | ⟨cap, e1, e2⟩
  ·exact .inl ⟨k, cap, e1, e2, (World.grownBy_alloc W _ _).trans e3⟩
  ·exact .inr ⟨_, cap, e1, by simp, (World.grownBy_alloc W _ _).trans e2⟩)
 unfold Oper.wp execOp
 simp only [ho, resolve, invoke, builtin, Sem.run_bind, Sem.run_pure, Result.andThen_ok, List.map_toArray, List.map_cons, List.map_nil, hs, hx, hr]
 exact hK _ _ (hk s3 A1 c1 w1 ⟨_, h4⟩)
end
end Go.Proofs.YtihjjkoddphmiaaGreatDoor.bk
namespace Go.Proofs.YtihjjkoddphmiaaGreatDoor.bk
open Go.RowKit Go.Proofs.YtihjjkoddphmiaaGreatDoorW.PrintWords
set_option linter.unusedVariables false
set_option linter.unusedSimpArgs false
/-- Behind i lists that were laid on. -/
structure Gq (m : Nat → Prop) (w : World) (bk q R : Nat) (s : Nat → Option Bl) (V : Nat → Value) (X : Nat → List Value) (i : Nat) (s' : Nat → Option Bl) (V' : Nat → Value) (X' : Nat → List Value) (wr : World) : Prop where
 sh : Sh m wr bk s' V' X'
 ty : Typ s'
 rest : ∀ j, j < 121 → j ≠ 4 + 9 * q → j ≠ 5 + 9 * q → V' j = V j ∧ X' j = X j
 old : ∀ k g, s k = some g → g.kd ≠ q → s' k = some g
 ki : Ki s' q R (X' (4 + 9 * q)) (X' (5 + 9 * q)) (X (6 + 9 * q)) (X (7 + 9 * q)) ((X (8 + 9 * q)).drop i)
 fr : Fr m w wr
section
variable {m : Nat → Prop} {w w0 wr w1 : World} {bk q R i n c : Nat} {s s' s1 s2 : Nat → Option Bl} {V V' V1 : Nat → Value} {X X' X1 : Nat → List Value} {d : Int} {v gv : Value} {A : Option Addr} {L : List Value}
theorem Gq.start (h : All m w bk s V X R d) (hq : live q) : Gq m w bk q R s V X 0 s V X w := ⟨h.sh, h.ty, fun _ _ _ _ => ⟨rfl, rfl⟩, fun _ _ e _ => e, (h.ks q hq).ki, Fr.refl _ _⟩
/-- One was laid on: gv, and its copy in block kc. -/
theorem Gq.next {kc c1 : Nat} (h : Gq m w bk q R s V X i s' V' X' wr) (hq : q < 13) (hv : (X (8 + 9 * q))[i]? = some v) (hg : Gw m bk q s' V' X' wr v s2 gv A n c L w0) (hkc : s2 kc = none) (hs : Sh m w1 bk (upd s2 kc (some ⟨q, 3, n, c1, L⟩)) V1 X1)
  (hX : X1 = upd (upd X' (4 + 9 * q) (X' (4 + 9 * q) ++ [gv])) (5 + 9 * q) (X' (5 + 9 * q) ++ [.slice (some ⟨kc, 0, none⟩) n c1])) (hV : ∀ j, j ≠ 4 + 9 * q → j ≠ 5 + 9 * q → V1 j = V' j) (hf : Fr m wr w1) :
  Gq m w bk q R s V X (i + 1) (upd s2 kc (some ⟨q, 3, n, c1, L⟩)) V1 X1 w1 := by
 have far : ∀ j, j ≠ 4 + 9 * q → j ≠ 5 + 9 * q → X1 j = X' j := fun j h1 h2 => by rw [hX, upd_ne _ _ h2, upd_ne _ _ h1]
 have x4 : X1 (4 + 9 * q) = X' (4 + 9 * q) ++ [gv] := by rw [hX, upd_ne _ _ (by omega), upd_same]
 have x5 : X1 (5 + 9 * q) = X' (5 + 9 * q) ++ [.slice (some ⟨kc, 0, none⟩) n c1] := by rw [hX, upd_same]
 have hle := Le.new hkc (⟨q, 3, n, c1, L⟩ : Bl)
 have hne : ∀ k g, s2 k = some g → upd s2 kc (some ⟨q, 3, n, c1, L⟩) k = some g := fun k g hk => by rw [upd_ne _ _ (fun e => by rw [e, hkc] at hk; cases hk)]; exact hk
 have hki := h.ki
 rw [drop_cons hv] at hki
 have hE0 : ∀ k g, s' k = some g → v.ownBlock = some k → g.kd = q := fun k g hk hb => by
  rcases hki.fe v (List.mem_cons_self ..) with e | ⟨k', g', e, e1, e2, e3⟩
  ·rw [e] at hb; cases hb
  ·rw [e] at hb; obtain rfl : k' = k := by simpa [Value.ownBlock] using hb
   rw [e1] at hk; cases hk; exact e2
 have hT : TyL (upd s2 kc (some ⟨q, 3, n, c1, L⟩)) ⟨q, 3, n, c1, L⟩ := by
  obtain ⟨-, ⟨-, rfl, -, rfl⟩ | ⟨k, -, hk⟩⟩ := hg.vl
  ·exact ⟨by simp, fun _ => by simp, fun i hi => by simp at hi, fun u hu => by simp at hu⟩
  ·have := (hg.ty.at hk).mono hle
   exact ⟨this.le, fun h3 => by simp at h3, this.el, this.one⟩
 refine ⟨hs, hg.ty.put hle hT, fun j h0 h1 h2 => ⟨(hV j h1 h2).trans (h.rest j h0 h1 h2).1, (far j h1 h2).trans (h.rest j h0 h1 h2).2⟩, fun k g e1 e2 => ?_, ?_, h.fr.then_ hf⟩
 ·have := h.old k g e1 e2
  exact hne k g (hg.old k g this (fun hb => e2 (hE0 k g this hb)))
 ·rw [x4, x5]
  refine hki.grow (fun k g e1 e2 e3 e4 => hne k g (hg.old k g e1 e4)) (fun k g e1 e2 => ?_) ?_
  ·obtain ⟨g', f1, f2, f3, f4, f5⟩ := hg.hv k g e1 e2
   exact ⟨g', hne k g' f1, f2, f3, f4, f5⟩
  ·obtain ⟨rfl, ⟨rfl, rfl, rfl, rfl⟩ | ⟨k, rfl, hk⟩⟩ := hg.vl
   ·exact ⟨_, _, 0, _, _, rfl, rfl, by omega, fun h0 => by omega⟩
   ·exact ⟨_, _, n, _, _, rfl, rfl, (hg.ty.at hk).le, fun _ => ⟨k, kc, _, ⟨q, 3, n, c1, L⟩, rfl, rfl, hne k _ hk, upd_same _ _ _, rfl, rfl, by simp, by simp, Nat.le_refl _, Nat.le_refl _, rfl⟩⟩
/-- All were laid on. -/
theorem Gq.fin (h0 : All m w bk s V X R d) (hq : live q) (h : Gq m w bk q R s V X i s' V' X' wr) (hi : (X (8 + 9 * q)).length ≤ i) :
  (∃ V1 X1, All m ((wr.setCell ⟨bk, 8 + 9 * q, none⟩ (.slice none 0 0)).setCell ⟨bk, 11 + 9 * q, none⟩ (.slice none 0 0)) bk s' V1 X1 R d) ∧ Fr m w ((wr.setCell ⟨bk, 8 + 9 * q, none⟩ (.slice none 0 0)).setCell ⟨bk, 11 + 9 * q, none⟩ (.slice none 0 0)) := by
 have hq13 : q < 13 := by unfold live at hq; omega
 have hk := h0.ks q hq
 have a1 := h.sh.put (j := 8 + 9 * q) (v1 := .slice none 0 0) (xs := []) (rtyq q hq13 _ (by omega) (by omega)) (World.ownsRow_nil _ _ _ _) (grown_refl _ _) (.inl rfl)
 have a2 := a1.put (j := 11 + 9 * q) (v1 := .slice none 0 0) (xs := []) (rtyq q hq13 _ (by omega) (by omega)) (World.ownsRow_nil _ _ _ _) (grown_refl _ _) (.inl rfl)
 have hr : ∀ j, j < 121 → j ≠ 4 + 9 * q → j ≠ 5 + 9 * q → j ≠ 8 + 9 * q → j ≠ 11 + 9 * q → upd (upd V' (8 + 9 * q) (.slice none 0 0)) (11 + 9 * q) (.slice none 0 0) j = V j ∧ upd (upd X' (8 + 9 * q) []) (11 + 9 * q) [] j = X j := fun j b1 b2 b3 b4 b5 => by
  rw [upd_ne _ _ b5, upd_ne _ _ b4, upd_ne _ _ b5, upd_ne _ _ b4]; exact h.rest j b1 b2 b3
 have x4 : upd (upd X' (8 + 9 * q) []) (11 + 9 * q) [] (4 + 9 * q) = X' (4 + 9 * q) := by rw [upd_ne _ _ (by omega), upd_ne _ _ (by omega)]
 have x5 : upd (upd X' (8 + 9 * q) []) (11 + 9 * q) [] (5 + 9 * q) = X' (5 + 9 * q) := by rw [upd_ne _ _ (by omega), upd_ne _ _ (by omega)]
 have x8 : upd (upd X' (8 + 9 * q) []) (11 + 9 * q) [] (8 + 9 * q) = [] := by rw [upd_ne _ _ (by omega), upd_same]
 have x11 : upd (upd X' (8 + 9 * q) []) (11 + 9 * q) [] (11 + 9 * q) = [] := upd_same _ _ _
 have hki := h.ki
 rw [List.drop_eq_nil_of_le hi] at hki
 refine ⟨⟨_, _, h0.work hq a2 h.ty (fun j b1 b2 => hr j b1 (by omega) (by omega) (by omega) (by omega)) (fun k g e1 e2 _ => h.old k g e1 e2) ⟨?_, ?_, ?_, ?_, ?_, ?_, ?_⟩ ?_ (Nat.le_refl _) h0.rb⟩, h.fr.then_ ((Fr.set h.sh.mb _).then_ (Fr.set h.sh.mb _))⟩
 ·rw [x4, x5, x8, (hr (6 + 9 * q) (by omega) (by omega) (by omega) (by omega) (by omega)).2, (hr (7 + 9 * q) (by omega) (by omega) (by omega) (by omega) (by omega)).2]; exact hki
 ·rw [(hr (9 + 9 * q) (by omega) (by omega) (by omega) (by omega) (by omega)).2, (hr (6 + 9 * q) (by omega) (by omega) (by omega) (by omega) (by omega)).2]; exact hk.m1
 ·rw [(hr (10 + 9 * q) (by omega) (by omega) (by omega) (by omega) (by omega)).2, (hr (6 + 9 * q) (by omega) (by omega) (by omega) (by omega) (by omega)).2]; exact hk.m2
 ·rw [x8, x11]
 ·rw [(hr (9 + 9 * q) (by omega) (by omega) (by omega) (by omega) (by omega)).2]; exact hk.n1
 ·rw [(hr (10 + 9 * q) (by omega) (by omega) (by omega) (by omega) (by omega)).2]; exact hk.n2
 ·rw [x11]; exact fun v hv => by simp at hv
 ·rw [(hr (12 + 9 * q) (by omega) (by omega) (by omega) (by omega) (by omega)).1]; exact h0.v8 q hq13
theorem Gq.lens (h : Gq m w bk q R s V X i s' V' X' wr) (hR : R ≤ 1099511627776) : (X' (4 + 9 * q)).length ≤ 1099511627776 ∧ (X' (5 + 9 * q)).length ≤ 1099511627776 := by
 have h1 := h.ki.rm; have h2 := h.ki.ot
 omega
end
end Go.Proofs.YtihjjkoddphmiaaGreatDoor.bk
