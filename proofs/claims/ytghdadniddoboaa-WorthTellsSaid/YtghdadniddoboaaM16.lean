import Derived.Test.YtghdadniddoboaaM13
import Derived.Test.YtghdadniddoboaaM14
import Derived.Test.YtghdadniddoboaaM15
import Derived.Test.YtghdadniddoboaaM05
/- A ledger and worths of it, side by side; operations on both. -/
namespace Go.Proofs.Ytghdadniddoboaa
open Go Go.Sy Go.Value
set_option linter.unusedVariables false
set_option linter.unusedSimpArgs false

structure LW (h0 h : Heap) (S : Lg) (p B C : Nat) (sp : List Value) (f : WoF) (T : List Cur) (N : Nat) (R : Nat → List Int) : Prop where
  LA : LedAt h p B C sp S
  X : WoX h f T N N (fun i => acOf T (R i))
  eN : S.M.length = N
  lp : f.lp = p
  base : h0.le h
  np : h0 p = none
  nB : h0 B = none
  fr : ∀ i, i < 3 + 3 * N → h0 (f.b i) = none
  dp : ∀ i, i < 3 + 3 * N → f.b i ≠ p ∧ f.b i ≠ B
  tab : tabE T = 0
  ln : ∀ i, i < N → (R i).length = T.length
  i64 : ∀ i, i < N → ∀ y ∈ R i, I64 y
section
variable {h0 h : Heap} {K : Value → Heap → Prop} {S : Lg} {p B C : Nat} {sp : List Value} {f : WoF} {T : List Cur} {N : Nat} {R : Nat → List Int}
theorem LW.le {h' : Heap} (W : LW h0 h S p B C sp f T N R) (l : h.le h') : LW h0 h' S p B C sp f T N R := { W with LA := W.LA.le l, X := W.X.le l, base := Heap.le_trans W.base l }
/-- without the ledger -/
theorem LW.woL (W : LW h0 h S p B C sp f T N R) : ∃ g : Heap, h0.le g ∧ g.le h ∧ g p = none ∧ g B = none ∧ WoX g f T N N (fun i => acOf T (R i)) := by
  have hD : ∀ x, (x == p || x == B) = true → x = p ∨ x = B := fun x hx => by simpa using hx
  refine ⟨h.wo fun x => x == p || x == B, le_wo W.base fun x hx => ?_, wo_le _ _, wo_none (by simp), wo_none (by simp), { W.X with fam := W.X.fam.mv fun x xs hx a => a.wo ?_ }⟩
  · rcases hD x hx with rfl | rfl
    · exact W.np
    · exact W.nB
  · obtain ⟨i, hi, rfl⟩ := famD_t hx
    have := W.dp i hi
    simp [this.1, this.2]
/-- without the worths -/
theorem LW.woW (W : LW h0 h S p B C sp f T N R) : ∃ g : Heap, h0.le g ∧ g.le h ∧ (∀ i, i < 3 + 3 * N → g (f.b i) = none) ∧ LedAt g p B C sp S := by
  refine ⟨h.wo (famD (3 + 3 * N) f.b), le_wo W.base fun x hx => ?_, wo_le _ _, fun i hi => wo_none (famD_i hi), ⟨W.LA.ap.wo (famD_no fun i hi => (W.dp i hi).1), W.LA.ab.wo (famD_no fun i hi => (W.dp i hi).2), W.LA.ne, W.LA.sz⟩⟩
  obtain ⟨i, hi, rfl⟩ := famD_t hx
  exact W.fr i hi
theorem S_WIn (W : LW h0 h S p B C sp f T N R) {m c a : Int} (ha : I64 a) (k : ∀ h', LW h0 h' (inG S m c a).2 p B C sp f T N R → K (.int .i64 (inG S m c a).1) h') :
    CallA Try.prog fn_pledger_Ledger_In [pointer (some ⟨p, 0, none⟩), .int .i64 m, .int .i64 c, .int .i64 a] h K := by
  obtain ⟨g, g1, g2, g3, g4, X⟩ := W.woL
  exact S_lIn g2 g3 g4 W.LA ha fun h' l' A' => k h' { W with LA := A', X := X.le l', eN := (inG_sz S m c a).1.trans W.eN, base := Heap.le_trans g1 l' }
theorem S_WPost (W : LW h0 h S p B C sp f T N R) {q : Option Addr} {b : List Pst} {n qc : Nat} (Xb : Pos h0 q b) (hn : b.length = n) (hs : n ≤ 1000) (hI : ∀ x ∈ b, I64 x.m ∧ I64 x.c ∧ I64 x.a) (k : ∀ h' B' C' sp', LW h0 h' (postG S b).2 p B' C' sp' f T N R → K (.int .i64 (postG S b).1) h') :
    CallA Try.prog fn_pledger_Ledger_Post [pointer (some ⟨p, 0, none⟩), slice q n qc] h K := by
  obtain ⟨g, g1, g2, g3, g4, X⟩ := W.woL
  exact S_lPost g2 g3 g4 W.LA (rdL_le g1 Xb) hn hs hI fun h' B' C' sp' l' A' n' => k h' B' C' sp' { W with LA := A', X := X.le l', eN := (postG_sz S b).1.trans W.eN, base := Heap.le_trans g1 l', nB := none_of_le g1 n', dp := fun i hi => ⟨(W.dp i hi).1, (X.fam.at' i hi).ne n'⟩ }
theorem LW.wnew (W : LW h0 h S p B C sp f T N R) {g h' : Heap} {f' : WoF} {T' : List Cur} {R' : Nat → List Int} (g1 : h0.le g) (G : LedAt g p B C sp S) (l' : g.le h') (elp : f'.lp = f.lp) (fr : ∀ i, i < 3 + 3 * N → g (f'.b i) = none) (X : WoX h' f' T' N N (fun i => acOf T' (R' i)))
    (tab : tabE T' = 0) (ln : ∀ i, i < N → (R' i).length = T'.length) (i64 : ∀ i, i < N → ∀ y ∈ R' i, I64 y) : LW h0 h' S p B C sp f' T' N R' :=
  { LA := G.le l', X := X, eN := W.eN, lp := elp.trans W.lp, base := Heap.le_trans g1 l', np := W.np, nB := W.nB, fr := fun i hi => none_of_le g1 (fr i hi), dp := fun i hi => ⟨fun e => G.ap.ne (fr i hi) e.symm, fun e => G.ab.ne (fr i hi) e.symm⟩, tab := tab, ln := ln, i64 := i64 }
def movR (S : Lg) (w N : Nat) (R : Nat → List Int) (m : Int) : Nat → List Int := if 0 ≤ m ∧ m < (N : Int) then updF R m.toNat (rowG S m w) else R
theorem acOf_upd (T : List Cur) (R : Nat → List Int) (m : Nat) (r : List Int) : updF (fun i => acOf T (R i)) m (acOf T r) = fun i => acOf T (updF R m r i) := by
  funext i
  by_cases e : i = m
  · subst e; rw [updF_same, updF_same]
  · rw [updF_ne _ _ e, updF_ne _ _ e]
theorem S_WMoved (W : LW h0 h S p B C sp f T N R) {m : Int} (k : ∀ h' f', LW h0 h' S p B C sp f' T N (movR S T.length N R m) → f'.b 0 = f.b 0 → K (tuple #[]) h') :
    CallA Try.prog fn_pworth_Worths_Moved [pointer (some ⟨f.b 0, 0, none⟩), int .i64 m] h K := by
  obtain ⟨g, g1, g2, g3, G⟩ := W.woW
  refine S_wMoved g2 g3 W.tab W.X (by rw [W.lp]; exact W.LA) fun h' f' l' e0 elp fr X => k h' f' ?_ e0
  have eX : (if 0 ≤ m ∧ m < (N : Int) then updF (fun i => acOf T (R i)) m.toNat (acOf T (rowG S m T.length)) else fun i => acOf T (R i)) = fun i => acOf T (movR S T.length N R m i) := by
    unfold movR
    split
    · exact acOf_upd _ _ _ _
    · rfl
  rw [eX] at X
  refine W.wnew g1 G l' elp fr X W.tab (fun i hi => ?_) fun i hi => ?_
  · unfold movR
    split
    · by_cases e : i = m.toNat
      · subst e; rw [updF_same, rowG_len]
      · rw [updF_ne _ _ e]; exact W.ln i hi
    · exact W.ln i hi
  · unfold movR
    split
    · by_cases e : i = m.toNat
      · subst e; rw [updF_same]; exact rowG_I W.LA.sz _ _
      · rw [updF_ne _ _ e]; exact W.i64 i hi
    · exact W.i64 i hi
theorem turnT_some {T : List Cur} {o : Option (List Cur)} (h : tabE T = 0) (ho : ∀ T', o = some T' → tabE T' = 0 ∧ T'.length = T.length) : tabE (turnT T o) = 0 ∧ (turnT T o).length = T.length := by
  cases o with
  | none => exact ⟨h, rfl⟩
  | some T' => exact ho T' rfl
theorem wRate_tab {T : List Cur} (h : tabE T = 0) (c r : Int) : tabE (turnT T (wRate T c r)) = 0 ∧ (turnT T (wRate T c r)).length = T.length := turnT_some h fun T' e => by
  obtain ⟨j, x, _, _, rfl, e2⟩ := wRate_some h e
  exact ⟨e2, List.length_set⟩
theorem wCut_tab {T : List Cur} (h : tabE T = 0) (c r : Int) : tabE (turnT T (wCut T c r)) = 0 ∧ (turnT T (wCut T c r)).length = T.length := turnT_some h fun T' e => by
  obtain ⟨j, x, _, _, rfl, e2⟩ := wCut_some h e
  exact ⟨e2, List.length_set⟩
theorem S_WRate (W : LW h0 h S p B C sp f T N R) {c r : Int} (k : ∀ h' f', LW h0 h' S p B C sp f' (turnT T (wRate T c r)) N R → f'.b 0 = f.b 0 → K (.int .i64 (turnE (wRate T c r))) h') :
    CallA Try.prog fn_pworth_Worths_Rate [pointer (some ⟨f.b 0, 0, none⟩), int .i64 c, int .i64 r] h K := by
  obtain ⟨g, g1, g2, g3, G⟩ := W.woW
  have ht := wRate_tab W.tab c r
  exact S_wRate g2 W.tab W.ln W.i64 g3 (by have := W.LA.sz.n16; have := W.eN; omega) W.X fun h' f' l' e0 elp fr X => k h' f' (W.wnew g1 G l' elp fr X ht.1 (fun i hi => by rw [ht.2]; exact W.ln i hi) W.i64) e0
theorem S_WCut (W : LW h0 h S p B C sp f T N R) {c r : Int} (k : ∀ h' f', LW h0 h' S p B C sp f' (turnT T (wCut T c r)) N R → f'.b 0 = f.b 0 → K (.int .i64 (turnE (wCut T c r))) h') :
    CallA Try.prog fn_pworth_Worths_Cut [pointer (some ⟨f.b 0, 0, none⟩), int .i64 c, int .i64 r] h K := by
  obtain ⟨g, g1, g2, g3, G⟩ := W.woW
  have ht := wCut_tab W.tab c r
  exact S_wCut g2 W.tab W.ln W.i64 g3 (by have := W.LA.sz.n16; have := W.eN; omega) W.X fun h' f' l' e0 elp fr X => k h' f' (W.wnew g1 G l' elp fr X ht.1 (fun i hi => by rw [ht.2]; exact W.ln i hi) W.i64) e0
/-- both, made -/
theorem S_WNew {tp : Option Addr} {tn tc : Nat} (l0 : h0.le h) (CT : Curs h tp T) (hn : T.length = tn) (LA : LedAt h p B C sp S) (np : h0 p = none) (nB : h0 B = none) (hT : tabE T = 0) (hc : S.cur = tn)
    (k : ∀ h' f, LW h0 h' S p B C sp f T S.M.length (fun i => rowG S (i : Int) T.length) → K (tuple #[.pointer (some ⟨f.b 0, 0, none⟩), .int .i64 0]) h') : CallA Try.prog fn_worth_New [slice tp tn tc, .pointer (some ⟨p, 0, none⟩)] h K := by
  obtain ⟨_, t8, _⟩ := tab_parts hT
  exact S_wNew CT hn (by omega) LA (fun e => (e hT).elim) (fun _ e => (e hc).elim) fun _ _ h' f l' X elp fr => k h' f { LA := LA.le l', X := X, eN := rfl, lp := elp, base := Heap.le_trans l0 l', np := np, nB := nB, fr := fun i hi => none_of_le l0 (fr i hi), dp := fun i hi => ⟨fun e => LA.ap.ne (fr i hi) e.symm, fun e => LA.ab.ne (fr i hi) e.symm⟩, tab := hT, ln := fun i _ => rowG_len _ _ _, i64 := fun i _ => rowG_I LA.sz _ _ }
end
end Go.Proofs.Ytghdadniddoboaa

/- Operations, handed over and done. -/
namespace Go.Proofs.Ytghdadniddoboaa
open Go Go.Sy Go.Value
set_option linter.unusedVariables false
set_option linter.unusedSimpArgs false

structure OpW where
  d : Int
  m : Int
  c : Int
  a : Int
  p : Option Addr
  cp : Nat
  b : List Pst
def opwV (x : OpW) : List Value := [.int .i64 x.d, .int .i64 x.m, .int .i64 x.c, .int .i64 x.a, .slice x.p x.b.length x.cp]
theorem opwV_len (x : OpW) : (opwV x).length = 5 := rfl
structure OpWI (h : Heap) (x : OpW) : Prop where
  d : I64 x.d
  m : I64 x.m
  c : I64 x.c
  a : I64 x.a
  b : ∀ y ∈ x.b, I64 y.m ∧ I64 y.c ∧ I64 y.a
  X : Pos h x.p x.b
theorem OpWI.le {h h' : Heap} {x : OpW} (o : OpWI h x) (l : h.le h') : OpWI h' x := { o with X := rdL_le l o.X }
def opwS : Sh := .two (.int .i64) (.two (.int .i64) (.two (.int .i64) (.two (.int .i64) (.two (.sl poSh) .nil))))
theorem opw_of {h : Heap} {p : Option Addr} {n c : Nat} (H : (Sh.sl opwS).Has h [.slice p n c]) : n ≤ 9223372036854775807 ∧ ∃ l : List OpW, l.length = n ∧ Arr opwV h p l ∧ ∀ x ∈ l, OpWI h x := by
  obtain ⟨h1, h2, l, e, A, P⟩ := arr_of (enc := opwV) (P := OpWI h) H fun vs hv => by
    obtain ⟨_, _, rfl, _, ⟨n1, rfl, w1⟩, _, _, rfl, _, ⟨n2, rfl, w2⟩, _, _, rfl, _, ⟨n3, rfl, w3⟩, _, _, rfl, _, ⟨n4, rfl, w4⟩, _, _, rfl, _, hsl, hnil⟩ := hv
    cases hnil
    have hsl2 := hsl
    obtain ⟨q, k, cc, rfl, _⟩ := hsl
    obtain ⟨_, _, b, hb, Xb, Ib⟩ := pos_of hsl2
    subst hb
    exact ⟨⟨n1, n2, n3, n4, q, cc, b⟩, rfl, ⟨I64.of_wf w1, I64.of_wf w2, I64.of_wf w3, I64.of_wf w4, Ib, Xb⟩⟩
  exact ⟨by omega, l, e, A, P⟩
theorem owx {h : Heap} {p : Option Addr} {l : List OpW} {N : Nat} (C : Arr opwV h p l) (hn : l.length = N) {j : Nat} {i : Int} (hi : i = (j : Int)) {x : OpW} (hx : l[j]? = some x) {Q : Int → Int → Int → Int → Option Addr → Nat → Nat → Prop} (kk : Q x.d x.m x.c x.a x.p x.b.length x.cp) :
    0 ≤ i ∧ i < (N : Int) ∧ withAddr p fun b o => ∃ n, h.cell b (o + i.toNat * 5) = some (.int .i64 n) ∧ ∃ n1, h.cell b (o + i.toNat * 5 + 1) = some (.int .i64 n1) ∧ ∃ n2, h.cell b (o + i.toNat * 5 + 2) = some (.int .i64 n2) ∧ ∃ n3, h.cell b (o + i.toNat * 5 + 3) = some (.int .i64 n3) ∧ ∃ a n4 m, h.cell b (o + i.toNat * 5 + 4) = some (.slice a n4 m) ∧ Q n n1 n2 n3 a n4 m := by
  subst hi
  exact ax (w := 5) opwV_len C hn rfl hx (by decide) fun b o _ g => ⟨_, g 0 (by decide), _, g 1 (by decide), _, g 2 (by decide), _, g 3 (by decide), _, _, _, g 4 (by decide), kk⟩
theorem owx4 {h : Heap} {p : Option Addr} {l : List OpW} {N : Nat} (C : Arr opwV h p l) (hn : l.length = N) {j : Nat} {i : Int} (hi : i = (j : Int)) {x : OpW} (hx : l[j]? = some x) {Q : Option Addr → Nat → Nat → Prop} (kk : Q x.p x.b.length x.cp) :
    0 ≤ i ∧ i < (N : Int) ∧ withAddr p fun b o => ∃ a n4 m, h.cell b (o + i.toNat * 5 + 4) = some (.slice a n4 m) ∧ Q a n4 m := by
  subst hi
  exact ax (w := 5) opwV_len C hn rfl hx (by decide) fun b o _ g => ⟨_, _, _, g 4 (by decide), kk⟩
theorem S_large09 {h : Heap} {K : Value → Heap → Prop} {p : Option Addr} {l : List OpW} {n c : Nat} (X : Arr opwV h p l) (hn : l.length = n) (hs : n ≤ 9223372036854775807) (k : ∀ b : Bool, (b = false → n ≤ 30 ∧ ∀ x ∈ l, x.b.length ≤ 20) → K (.bool b) h) :
    CallA Try.prog fn_law09_large [slice p n c] h K := by
  refine F_law09_large _ _ _ _ _ ?_
  unfold F_law09_largeT
  have loop : ∀ (m j : Nat), m + j = n → (∀ x ∈ l.take j, x.b.length ≤ 20) → L_law09_large_0 p n c (n : Int) (j : Int) h K := by
    intro m
    induction m with
    | zero =>
      intro j hj e
      refine L_law09_large_0r _ _ _ _ _ _ _ ?_
      unfold L_law09_large_0T
      rw [List.take_of_length_le (by omega)] at e
      exact Br.no (by simp; omega) (Ret.mk (k _ fun hb => ⟨by have := of_decide_eq_false hb; omega, e⟩))
    | succ m ih =>
      intro j hj e
      refine L_law09_large_0r _ _ _ _ _ _ _ ?_
      unfold L_law09_large_0T
      have hx : l[j]? = some l[j] := List.getElem?_eq_getElem (by omega)
      have htk : l.take (j + 1) = l.take j ++ [l[j]] := by rw [List.take_add_one, hx]; rfl
      generalize l[j] = x at *
      refine Br.yes (by simp; omega) (owx4 X hn rfl hx (Br.dec (fun g => Ret.mk (k true fun hb => by cases hb)) fun g => ?_))
      have hw : IntKind.wrap .i64 ((j : Int) + 1) = ((j + 1 : Nat) : Int) := by rw [wrap_i64_id (by omega) (by omega)]; omega
      rw [hw]
      refine ih (j + 1) (by omega) fun y hy => ?_
      rw [htk] at hy
      rcases List.mem_append.1 hy with hy | hy
      · exact e y hy
      · rw [List.mem_singleton] at hy; subst hy; omega
  exact loop n 0 (by omega) fun x hx => by simp at hx
/-! what an operation leaves -/
structure St9 where
  S : Lg
  T : List Cur
  R : Nat → List Int
def allR (S : Lg) (w N : Nat) (R : Nat → List Int) (j i : Nat) : List Int := if i < j then rowG S (i : Int) w else R i
def doW (N : Nat) (s : St9) (x : OpW) : Int × St9 :=
  if x.d = 0 then ((inG s.S x.m x.c x.a).1, ⟨(inG s.S x.m x.c x.a).2, s.T, movR (inG s.S x.m x.c x.a).2 s.T.length N s.R x.m⟩)
  else if x.d = 4 then ((inG s.S x.m x.c x.a).1, ⟨(inG s.S x.m x.c x.a).2, s.T, s.R⟩)
  else if x.d = 1 then ((postG s.S x.b).1, ⟨(postG s.S x.b).2, s.T, allR (postG s.S x.b).2 s.T.length N s.R N⟩)
  else if x.d = 2 then (turnE (wRate s.T x.c x.a), ⟨s.S, turnT s.T (wRate s.T x.c x.a), s.R⟩)
  else if x.d = 3 then (turnE (wCut s.T x.c x.a), ⟨s.S, turnT s.T (wCut s.T x.c x.a), s.R⟩)
  else (0, ⟨s.S, s.T, movR s.S s.T.length N s.R x.m⟩)
section
variable {h0 h : Heap} {K : Value → Heap → Prop} {S : Lg} {p B C : Nat} {sp : List Value} {f : WoF} {T : List Cur} {N : Nat} {R : Nat → List Int}
theorem LW.box (W : LW h0 h S p B C sp f T N R) {r : Nat} {z : List Value} {Ty : TypeId} (hr : h r = none) : ∃ g0 : Heap, h0.le g0 ∧ At g0 r z ∧ LW g0 (h.ins r (.cells z.toArray Ty (0, 0))) S p B C sp f T N R := by
  have nr := none_of_le W.base hr
  have ne : ∀ {x : Nat} {vs : List Value}, At h x vs → h0 x = none → (h0.ins r (.cells z.toArray Ty (0, 0))) x = none := fun a e => by
    unfold Heap.ins; rw [if_neg (a.ne hr)]; exact e
  exact ⟨h0.ins r (.cells z.toArray Ty (0, 0)), le_ins nr, At.new _ _ _ _, { W with LA := W.LA.le (le_ins hr), X := W.X.le (le_ins hr), base := ins_le_ins W.base, np := ne W.LA.ap W.np, nB := ne W.LA.ab W.nB, fr := fun i hi => ne (W.X.fam.at' i hi) (W.fr i hi) }⟩
theorem LW.back {g0 : Heap} (W : LW g0 h S p B C sp f T N R) (l : h0.le g0) : LW h0 h S p B C sp f T N R := { W with base := Heap.le_trans l W.base, np := none_of_le l W.np, nB := none_of_le l W.nB, fr := fun i hi => none_of_le l (W.fr i hi) }
theorem LW.cong {R' : Nat → List Int} (W : LW h0 h S p B C sp f T N R) (e : R = R') : LW h0 h S p B C sp f T N R' := by rw [← e]; exact W
theorem do_loop {e : Int} (hN : N ≤ 1000) {w : Nat} (k : ∀ h' f', f'.b 0 = w → LW h0 h' S p B C sp f' T N (allR S T.length N R N) → K (.int .i64 e) h') :
    ∀ (m j : Nat) (h : Heap) (f : WoF), m + j = N → f.b 0 = w → LW h0 h S p B C sp f T N (allR S T.length N R j) → L_law09_do_0 (some ⟨w, 0, none⟩) (N : Int) e (j : Int) h K := by
  intro m
  induction m with
  | zero =>
    intro j h f hj e0 W
    refine L_law09_do_0r _ _ _ _ _ _ ?_
    unfold L_law09_do_0T
    obtain rfl : j = N := by omega
    exact Br.no (by simp) (Ret.mk (k h f e0 W))
  | succ m ih =>
    intro j h f hj e0 W
    refine L_law09_do_0r _ _ _ _ _ _ ?_
    unfold L_law09_do_0T
    refine Br.yes (by simp; omega) ?_
    rw [← e0]
    refine S_WMoved W fun h' f' W' e0' => ⟨rfl, ?_⟩
    rw [w1 (by omega), e0]
    refine ih (j + 1) h' f' (by omega) (e0'.trans e0) (W'.cong ?_)
    funext i
    unfold movR
    rw [if_pos (by omega), Int.toNat_natCast]
    unfold allR
    by_cases ei : i = j
    · subst ei; rw [updF_same, if_pos (by omega)]
    · rw [updF_ne _ _ ei]
      by_cases e2 : i < j
      · rw [if_pos e2, if_pos (by omega)]
      · rw [if_neg e2, if_neg (by omega)]
theorem S_do09 {s : St9} (W : LW h0 h s.S p B C sp f s.T N s.R) {x : OpW} (ox : OpWI h0 x) (hb : x.b.length ≤ 20)
    (k : ∀ h' B' C' sp' f', LW h0 h' (doW N s x).2.S p B' C' sp' f' (doW N s x).2.T N (doW N s x).2.R → f'.b 0 = f.b 0 → K (.int .i64 (doW N s x).1) h') :
    CallA Try.prog fn_law09_do [pointer (some ⟨p, 0, none⟩), pointer (some ⟨f.b 0, 0, none⟩), .int .i64 (N : Int), agg #[int .i64 x.d, int .i64 x.m, int .i64 x.c, int .i64 x.a, slice x.p x.b.length x.cp]] h K := by
  have hN : N ≤ 1000 := by have := W.LA.sz.n16; have := W.eN; omega
  refine F_law09_do _ _ _ _ _ _ _ _ _ _ _ _ ?_
  unfold F_law09_doT
  intro r hr
  obtain ⟨g0, g1, Ar, W1⟩ := W.box (z := [int .i64 x.d, int .i64 x.m, int .i64 x.c, int .i64 x.a, slice x.p x.b.length x.cp]) (Ty := 53) hr
  generalize h.ins r (.cells [int .i64 x.d, int .i64 x.m, int .i64 x.c, int .i64 x.a, slice x.p x.b.length x.cp].toArray 53 (0, 0)) = h1 at *
  have A1 := Ar.le W1.base
  refine ⟨_, A1.cell rfl, ?_⟩
  unfold doW at k
  by_cases d0 : x.d = 0
  · rw [if_pos d0] at k
    refine Br.yes (by simpa using d0) (Br.yes (by simpa using d0) ⟨_, A1.cell rfl, _, A1.cell rfl, _, A1.cell rfl, S_WIn W1 ox.a fun h2 W2 => ⟨_, rfl, _, (Ar.le W2.base).cell rfl, Br.yes (by simpa using d0) ⟨_, (Ar.le W2.base).cell rfl, S_WMoved W2 fun h3 f3 W3 e3 => ⟨rfl, Ret.mk (k h3 _ _ _ f3 (W3.back g1) e3)⟩⟩⟩⟩)
  rw [if_neg d0] at k
  refine Br.no (by simpa using d0) ?_
  by_cases d4 : x.d = 4
  · rw [if_pos d4] at k
    refine Br.yes (by simpa using d4) ⟨_, A1.cell rfl, _, A1.cell rfl, _, A1.cell rfl, S_WIn W1 ox.a fun h2 W2 => ⟨_, rfl, _, (Ar.le W2.base).cell rfl, Br.no (by simpa using d0) (Ret.mk (k h2 _ _ _ f (W2.back g1) rfl))⟩⟩
  rw [if_neg d4] at k
  refine Br.no (by simpa using d4) ?_
  by_cases d1 : x.d = 1
  · rw [if_pos d1] at k
    refine Br.yes (by simpa using d1) ⟨_, _, _, A1.cell rfl, S_WPost W1 (rdL_le g1 ox.X) rfl (by omega) ox.b fun h2 B2 C2 sp2 W2 => ⟨_, rfl, ?_⟩⟩
    refine do_loop hN (w := f.b 0) (fun h' f' e0 W' => k h' _ _ _ f' (W'.back g1) e0) N 0 h2 f rfl rfl (W2.cong ?_)
    funext i
    unfold allR
    rw [if_neg (by omega)]
  rw [if_neg d1] at k
  refine Br.no (by simpa using d1) ?_
  by_cases d2 : x.d = 2
  · rw [if_pos d2] at k
    refine Br.yes (by simpa using d2) ⟨_, A1.cell rfl, _, A1.cell rfl, S_WRate W1 fun h2 f2 W2 e2 => ⟨_, rfl, Ret.mk (k h2 _ _ _ f2 (W2.back g1) e2)⟩⟩
  rw [if_neg d2] at k
  refine Br.no (by simpa using d2) ?_
  by_cases d3 : x.d = 3
  · rw [if_pos d3] at k
    refine Br.yes (by simpa using d3) ⟨_, A1.cell rfl, _, A1.cell rfl, S_WCut W1 fun h2 f2 W2 e2 => ⟨_, rfl, Ret.mk (k h2 _ _ _ f2 (W2.back g1) e2)⟩⟩
  rw [if_neg d3] at k
  refine Br.no (by simpa using d3) ⟨_, A1.cell rfl, S_WMoved W1 fun h2 f2 W2 e2 => ⟨rfl, Ret.mk (k h2 _ _ _ f2 (W2.back g1) e2)⟩⟩
end
end Go.Proofs.Ytghdadniddoboaa

/- The law's first question. -/
namespace Go.Proofs.Ytghdadniddoboaa
open Go Go.Sy Go.Value
set_option linter.unusedVariables false
set_option linter.unusedSimpArgs false

def aT : List Cur := [⟨⟨#[69, 85, 82]⟩, 10000, 0⟩, ⟨⟨#[85, 83, 68]⟩, 12500, 200⟩]
def aT1 : List Cur := [⟨⟨#[69, 85, 82]⟩, 10000, 0⟩]
def aS : Lg := (postG (inG (inG (newG 2 2) 0 0 10).2 1 1 100).2 [⟨0, 1, -100⟩, ⟨1, 1, 100⟩]).2
def aU : List Cur := turnT aT (wRate aT 1 10000)
def aV : List Cur := turnT aU (wCut aU 1 10001)
theorem aT_tab : tabE aT = 0 := by decide +kernel
theorem aT1_tab : tabE aT1 = 0 := by decide +kernel
theorem a_net : netW aT (rowG aS ((0 : Nat) : Int) 2) = (-118, 0) := by decide +kernel
theorem a_sh : shW aT (rowG aS ((0 : Nat) : Int) 2) = (125, 0) := by decide +kernel
theorem a_rows : rowG aS ((0 : Nat) : Int) 2 = [10, -100] := by decide +kernel
theorem a_mv : movedW 0 [⟨0, 1, 100⟩] [10, -100] = some [10, 0] := by decide +kernel
theorem a_if : ifW aT (rowG aS ((0 : Nat) : Int) 2) 0 [⟨0, 1, 100⟩] = (10, 0, 0) := by
  rw [a_rows]
  unfold ifW
  rw [if_neg (by decide +kernel), a_mv]
  decide +kernel
theorem a_rate : turnE (wRate aT 1 10000) = 0 := by unfold turnE; kernel_rfl
theorem a_cut : turnE (wCut aU 1 10001) = 1 := by unfold turnE; kernel_rfl
theorem a_net2 : netW aV (rowG aS ((0 : Nat) : Int) 2) = (-92, 0) := by decide +kernel
theorem aV_len : aV.length = 2 := by decide +kernel
theorem aV_4 : (curV aV)[4]? = some (.int .i64 10000) := by kernel_rfl
theorem aS_len : aS.M.length = 2 := by decide +kernel
theorem aS_cur : aS.cur = 2 := by decide +kernel
theorem S_law09_awake {h : Heap} {K : Value → Heap → Prop} (k : ∀ h', h.le h' → K (.bool true) h') : CallA Try.prog fn_law09_awake [] h K := by
  refine F_law09_awake _ _ ?_
  unfold F_law09_awakeT
  refine newB_at fun r h1 hr l1 Ar => ?_
  have Ct : Curs h1 (some ⟨r, 0, none⟩) aT := (show At h1 r (curV aT ++ []) from Ar).toRd
  have Ct1 : Curs h1 (some ⟨r, 0, none⟩) aT1 := (show At h1 r (curV aT1 ++ [string { data := #[85, 83, 68] }, int .i64 12500, int .i64 200]) from Ar).toRd
  refine S_lNew (fun e => absurd e (by decide)) fun n w en ew _ _ _ _ h2 p B C sp l2 A2 np nB => ⟨_, _, rfl, ?_⟩
  have en : n = 2 := by omega
  have ew : w = 2 := by omega
  subst en ew
  refine Br.no rfl (S_lIn l2 np nB A2 ⟨by decide, by decide⟩ fun h3 l3 A3 => ⟨_, rfl, S_lIn l3 np nB A3 ⟨by decide, by decide⟩ fun h4 l4 A4 => ⟨_, rfl, fun r1 hr1 => ?_⟩⟩)
  have nr := none_of_le l4 hr1
  have P1 : Pos (h1.ins r1 (.cells [.int .i64 0, .int .i64 1, .int .i64 (-100), .int .i64 1, .int .i64 1, .int .i64 100].toArray 86 (0, 0))) (some ⟨r1, 0, none⟩) [⟨0, 1, -100⟩, ⟨1, 1, 100⟩] := rdL_new _ _ _ _ _
  have l5 := ins_le_ins (r := r1) (x := .cells [.int .i64 0, .int .i64 1, .int .i64 (-100), .int .i64 1, .int .i64 1, .int .i64 100].toArray 86 (0, 0)) l4
  have l5' : h4.le (h4.ins r1 (.cells [.int .i64 0, .int .i64 1, .int .i64 (-100), .int .i64 1, .int .i64 1, .int .i64 100].toArray 86 (0, 0))) := le_ins hr1
  have hg : h1.le (h1.ins r1 (.cells [.int .i64 0, .int .i64 1, .int .i64 (-100), .int .i64 1, .int .i64 1, .int .i64 100].toArray 86 (0, 0))) := le_ins nr
  have A5 := A4.le l5'
  have np5 : (h1.ins r1 (.cells [.int .i64 0, .int .i64 1, .int .i64 (-100), .int .i64 1, .int .i64 1, .int .i64 100].toArray 86 (0, 0))) p = none := by
    unfold Heap.ins; rw [if_neg (A4.ap.ne hr1)]; exact np
  have nB5 : (h1.ins r1 (.cells [.int .i64 0, .int .i64 1, .int .i64 (-100), .int .i64 1, .int .i64 1, .int .i64 100].toArray 86 (0, 0))) B = none := by
    unfold Heap.ins; rw [if_neg (A4.ab.ne hr1)]; exact nB
  generalize h4.ins r1 (.cells [.int .i64 0, .int .i64 1, .int .i64 (-100), .int .i64 1, .int .i64 1, .int .i64 100].toArray 86 (0, 0)) = h5 at *
  generalize h1.ins r1 (.cells [.int .i64 0, .int .i64 1, .int .i64 (-100), .int .i64 1, .int .i64 1, .int .i64 100].toArray 86 (0, 0)) = g at *
  have ip : ∀ a : Int, -100 ≤ a → a ≤ 100 → I64 a := fun a h1 h2 => by unfold I64; omega
  refine S_lPost l5 np5 nB5 A5 P1 rfl (by decide) (fun x hx => ?_) fun h6 B6 C6 sp6 l6 A6 n6 => ⟨_, rfl, ?_⟩
  · simp only [List.mem_cons, List.not_mem_nil, or_false] at hx
    rcases hx with rfl | rfl <;> exact ⟨ip _ (by decide) (by decide), ip _ (by decide) (by decide), ip _ (by decide) (by decide)⟩
  change LedAt h6 p B6 C6 sp6 aS at A6
  refine S_WNew l6 (Ct.le (Heap.le_trans hg l6)) rfl A6 np5 n6 aT_tab aS_cur fun h7 f W => ⟨_, _, rfl, by decide, by decide, ?_⟩
  have l7 := Heap.le_trans hg W.base
  refine S_wNew (Ct1.le l7) rfl (by decide) W.LA (fun e => absurd aT1_tab e) (fun _ _ h8 l8 => ⟨_, _, rfl, Br.no rfl ?_⟩) (fun _ e => absurd (aS_cur.symm.trans e) (by decide))
  have W := W.le l8
  rw [aS_len] at W
  have e0 : ((0 : Int)).toNat = 0 := rfl
  refine S_wNet W.X ?_
  rw [if_pos (by decide)]
  refine ⟨_, _, rfl, S_wShort W.X ?_⟩
  rw [if_pos (by decide)]
  refine ⟨_, _, rfl, newB_at fun r2 h9 hr2 l9 A9 => ?_⟩
  have W9 := W.le l9
  refine S_wIf (row := rowG aS ((0 : Nat) : Int) 2) aT_tab W9.X (fun _ _ => rfl) (rowG_len _ _ _) (rowG_I A6.sz _ _) (b := [⟨0, 1, 100⟩]) (show At h9 r2 (poV [⟨0, 1, 100⟩] ++ []) from A9).toRd rfl (by decide) (fun y hy => by rw [List.mem_singleton] at hy; subst hy; exact ip _ (by decide) (by decide)) fun h10 l10 => ?_
  rw [if_pos (by decide), a_if]
  refine ⟨_, _, _, rfl, ?_⟩
  refine S_WRate (W9.le l10) fun h11 f11 W11 e11 => ⟨_, rfl, ?_⟩
  rw [a_rate, ← e11]
  refine S_WCut W11 fun h12 f12 W12 e12 => ⟨_, rfl, ?_⟩
  change LW g h12 aS p B6 C6 sp6 f12 aV 2 _ at W12
  rw [show turnE (wCut (turnT aT (wRate aT 1 10000)) 1 10001) = 1 from a_cut, ← e12]
  refine S_wNet W12.X ?_
  rw [if_pos (by decide)]
  refine ⟨_, _, rfl, S_wTable W12.X (by rw [aV_len]; decide) fun p' c' h13 l13 own => ⟨_, _, _, rfl, ?_⟩⟩
  refine S_wNet (W12.le l13).X ?_
  rw [if_neg (by decide)]
  obtain ⟨tb, sq, rfl, _, At'⟩ := own_blk own (fun e => by have := aV_4; rw [e] at this; cases this)
  have nt1 : (acOf aT (rowG aS ((0 : Nat) : Int) aT.length)).nt = (-118, 0) := a_net
  have sh1 : (acOf aT (rowG aS ((0 : Nat) : Int) aT.length)).sh = (125, 0) := a_sh
  have nt2 : (acOf aV (rowG aS ((0 : Nat) : Int) aT.length)).nt = (-92, 0) := a_net2
  dsimp only at *
  rw [e0, nt1, sh1, nt2, aV_len]
  refine ⟨_, _, rfl, Br.yes rfl (Br.yes rfl (Br.yes rfl (Br.yes rfl (Br.yes rfl (Br.yes rfl (Br.yes rfl (Br.yes rfl (Br.yes rfl (Br.yes rfl (Br.yes rfl (Br.yes rfl (Br.yes rfl ⟨by decide, by decide, withAddr_intro rfl ⟨10000, At'.cell ?_, Br.yes rfl (Ret.mk (k h13 ?_))⟩⟩))))))))))))⟩
  · rw [List.getElem?_append_left (by rw [curV_length, aV_len]; decide)]
    exact aV_4
  · exact Heap.le_trans l1 (Heap.le_trans hg (Heap.le_trans W12.base l13))
end Go.Proofs.Ytghdadniddoboaa

/- The law WorthKept. -/
namespace Go.Proofs.Ytghdadniddoboaa
open Go Go.Sy Go.Value
set_option linter.unusedVariables false
set_option linter.unusedSimpArgs false

def GoodW (h0 : Heap) (v : Value) (h' : Heap) : Prop := v = .bool true ∧ h0.le h'
theorem goodW {h0 h : Heap} (l : h0.le h) : Ret h (GoodW h0) (.bool true) := Ret.mk ⟨rfl, l⟩
theorem u8_of_wf {n : Int} (h : (Lit.int .u8 n).wf = true) : 0 ≤ n ∧ n ≤ 255 := by
  have h1 : (decide (IntKind.u8.min ≤ n) && decide (n ≤ IntKind.u8.max)) = true := h
  rw [Bool.and_eq_true, decide_eq_true_eq, decide_eq_true_eq] at h1
  have e1 : IntKind.u8.min = 0 := by decide
  have e2 : IntKind.u8.max = 255 := by decide
  rw [e1, e2] at h1
  exact h1
theorem many_of {n : Int} (h : (Lit.int .u8 n).wf = true) : ∃ k : Nat, IntKind.wrap .i64 (IntKind.wrap .i64 (n.tmod 16) + 1) = (k : Int) ∧ 1 ≤ k ∧ k ≤ 16 := by
  obtain ⟨h1, h2⟩ := u8_of_wf h
  rw [Int.tmod_eq_emod_of_nonneg h1]
  have := Int.emod_nonneg n (show (16 : Int) ≠ 0 by decide)
  have := Int.emod_lt_of_pos n (show (0 : Int) < 16 by decide)
  rw [wrap_i64_id (n := n % 16) (by omega) (by omega), wrap_i64_id (by omega) (by omega)]
  exact ⟨(n % 16 + 1).toNat, by omega, by omega, by omega⟩
/-! balances are what they were told -/
theorem getG_in {S : Lg} (o : S.Sz) {m c a : Int} {i : Nat} (hi : (i : Int) ≠ m) (d : Int) : getG (inG S m c a).2 (i : Int) d = getG S (i : Int) d := by
  unfold inG
  split
  · rfl
  split
  · rfl
  split
  · rfl
  split
  · rfl
  rename_i h1 _ _ _
  have hb : hasB S m c = true := by simpa using h1
  obtain ⟨x, y, rfl, rfl, hx, hy⟩ := hasB_t hb
  rw [Int.toNat_natCast, Int.toNat_natCast]
  have hc8 := o.c8
  unfold getG
  have eh : ∀ v v', hasB (wnG (wrG S x y v) y v') (i : Int) d = hasB S (i : Int) d := fun v v' => by
    unfold hasB wnG wrG
    dsimp only
    rw [(o.sh.wr hx).1]
  rw [eh]
  split
  · show rdM (wrM S.M x y _) _ _ = _
    rw [rd_wr o.sh hx (by omega), if_neg (by omega)]
  · rfl
theorem rowG_in {S : Lg} (o : S.Sz) {m c a : Int} {i : Nat} (hi : (i : Int) ≠ m) (w : Nat) : rowG (inG S m c a).2 (i : Int) w = rowG S (i : Int) w := by
  unfold rowG
  exact List.map_congr_left fun d _ => getG_in o hi _
theorem inG_out {S : Lg} {m c a : Int} (h : ¬ (0 ≤ m ∧ m < (S.M.length : Int))) : (inG S m c a).2 = S := by
  unfold inG
  rw [if_pos]
  unfold hasB
  exact decide_eq_false (by omega)
theorem kept_do {N : Nat} {s : St9} {x : OpW} (o : s.S.Sz) (eN : s.S.M.length = N) (ht : tabE s.T = 0) (hx : x.d ≠ 4) (hR : ∀ i, i < N → s.R i = rowG s.S (i : Int) s.T.length) : ∀ i, i < N → (doW N s x).2.R i = rowG (doW N s x).2.S (i : Int) (doW N s x).2.T.length := by
  intro i hi
  unfold doW
  split
  · dsimp only
    unfold movR
    split
    · rename_i hm
      by_cases e : i = x.m.toNat
      · subst e
        rw [updF_same, Int.toNat_of_nonneg hm.1]
      · rw [updF_ne _ _ e, rowG_in o (by omega)]
        exact hR i hi
    · rename_i hm
      rw [inG_out (by rw [eN]; exact hm)]
      exact hR i hi
  split
  · dsimp only
    unfold allR
    rw [if_pos hi]
  split
  · dsimp only
    rw [(wRate_tab ht _ _).2]
    exact hR i hi
  split
  · dsimp only
    rw [(wCut_tab ht _ _).2]
    exact hR i hi
  · dsimp only
    unfold movR
    split
    · rename_i hm
      by_cases e : i = x.m.toNat
      · subst e
        rw [updF_same, Int.toNat_of_nonneg hm.1]
      · rw [updF_ne _ _ e]; exact hR i hi
    · exact hR i hi
theorem doW_cur {N : Nat} {s : St9} {x : OpW} (ht : tabE s.T = 0) (h : s.S.cur = s.T.length) : (doW N s x).2.S.cur = (doW N s x).2.T.length := by
  unfold doW
  split
  · exact (inG_sz _ _ _ _).2.trans h
  split
  · exact (inG_sz _ _ _ _).2.trans h
  split
  · exact (postG_sz _ _).2.trans h
  split
  · exact h.trans (wRate_tab ht _ _).2.symm
  split
  · exact h.trans (wCut_tab ht _ _).2.symm
  · exact h
theorem ifW_nil (T : List Cur) (row : List Int) (m : Int) (h1 : (netW T row).2 = 0) (h2 : (shW T row).2 = 0) : ifW T row m [] = ((netW T row).1, (shW T row).1, 0) := by
  unfold ifW
  rw [if_neg (by unfold badC; simp), movedW]
  dsimp only
  rw [if_neg (by rw [h1]; decide), if_neg (by rw [h2]; decide)]
section
variable {h0 : Heap} {p : Nat} {N : Nat}
theorem kept_1 {f g : WoF} {T : List Cur} {R : Nat → List Int} (hT : tabE T = 0) (hN : N ≤ 1000) (ln : ∀ i, i < N → (R i).length = T.length) (i64 : ∀ i, i < N → ∀ y ∈ R i, I64 y) {L : Nat → Ac} (hL : ∀ i, i < N → L i = acOf T (R i)) :
    ∀ (m j : Nat) (h : Heap), m + j = N → h0.le h → WoX h f T N N (fun i => acOf T (R i)) → WoX h g T N N L → L_law09_WorthKept_1 (N : Int) (some ⟨f.b 0, 0, none⟩) (some ⟨g.b 0, 0, none⟩) (j : Int) h (GoodW h0) := by
  intro m
  induction m with
  | zero =>
    intro j h hj l0 X Y
    refine L_law09_WorthKept_1r _ _ _ _ _ _ ?_
    unfold L_law09_WorthKept_1T
    exact Br.no (by simp; omega) (goodW l0)
  | succ m ih =>
    intro j h hj l0 X Y
    refine L_law09_WorthKept_1r _ _ _ _ _ _ ?_
    unfold L_law09_WorthKept_1T
    have hj' : (0 : Int) ≤ (j : Int) ∧ (j : Int) < (N : Int) := by omega
    refine Br.yes (by simp; omega) (S_wNet X ?_)
    rw [if_pos hj', Int.toNat_natCast]
    refine ⟨_, _, rfl, S_wNet Y ?_⟩
    rw [if_pos hj', Int.toNat_natCast, hL j (by omega)]
    refine ⟨_, _, rfl, S_wShort X ?_⟩
    rw [if_pos hj', Int.toNat_natCast]
    refine ⟨_, _, rfl, S_wShort Y ?_⟩
    rw [if_pos hj', Int.toNat_natCast, hL j (by omega)]
    refine ⟨_, _, rfl, S_wIf (row := R j) hT X (fun _ _ => rfl) (ln j (by omega)) (i64 j (by omega)) (b := []) (.inl rfl) rfl (by decide) (fun y hy => by cases hy) fun h2 l2 => ?_⟩
    rw [if_pos hj']
    refine ⟨_, _, _, rfl, Br.no (by simp) (Br.no (by simp) (Br.no (by simp) (Br.no (by simp) ?_)))⟩
    have next : L_law09_WorthKept_1 (N : Int) (some ⟨f.b 0, 0, none⟩) (some ⟨g.b 0, 0, none⟩) (IntKind.wrap .i64 ((j : Int) + 1)) h2 (GoodW h0) := by
      rw [w1 (by omega)]
      exact ih (j + 1) h2 (by omega) (Heap.le_trans l0 l2) (X.le l2) (Y.le l2)
    by_cases e1 : (acOf T (R j)).nt.2 = 0
    · by_cases e2 : (acOf T (R j)).sh.2 = 0
      · refine Br.yes (by simpa using e1) (Br.yes (by simpa using e2) ?_)
        rw [ifW_nil _ _ _ e1 e2]
        exact Br.no (by simp [acOf]) (Br.no (by simp [acOf]) (Br.no rfl next))
      · exact Br.yes (by simpa using e1) (Br.no (by simpa using e2) next)
    · exact Br.no (by simpa using e1) next
variable {q : Option Addr} {l : List OpW} {n qc : Nat}
theorem kept_0 (X : Arr opwV h0 q l) (hn : l.length = n) (hs : n ≤ 1000) (hI : ∀ x ∈ l, OpWI h0 x) (hb : ∀ x ∈ l, x.b.length ≤ 20) :
    ∀ (m j : Nat) (h : Heap) (B C : Nat) (sp : List Value) (f : WoF) (s : St9), m + j = n → LW h0 h s.S p B C sp f s.T N s.R → (∀ i, i < N → s.R i = rowG s.S (i : Int) s.T.length) → s.S.cur = s.T.length → L_law09_WorthKept_0 (N : Int) (some ⟨p, 0, none⟩) (some ⟨f.b 0, 0, none⟩) q n qc (n : Int) (j : Int) h (GoodW h0) := by
  intro m
  induction m with
  | zero =>
    intro j h B C sp f s hj W hR hc
    refine L_law09_WorthKept_0r _ _ _ _ _ _ _ _ _ _ ?_
    unfold L_law09_WorthKept_0T
    obtain ⟨_, t8, _⟩ := tab_parts W.tab
    refine Br.no (by simp; omega) (S_wTable W.X (by omega) fun p' c' h1 l1 own => ⟨_, _, _, rfl, ?_⟩)
    have W1 := W.le l1
    refine S_wNew (T := s.T) own.rd rfl (by omega) W1.LA (fun e => (e W.tab).elim) (fun _ e => (e hc).elim) fun _ _ h2 g l2 Y _ _ => ⟨_, _, rfl, Br.no rfl (Br.no rfl ?_)⟩
    rw [W.eN] at Y
    exact kept_1 W.tab (by have := W.LA.sz.n16; have := W.eN; omega) W.ln W.i64 (fun i hi => by rw [hR i hi]; rfl) N 0 h2 rfl (Heap.le_trans W1.base l2) (W1.le l2).X Y
  | succ m ih =>
    intro j h B C sp f s hj W hR hc
    refine L_law09_WorthKept_0r _ _ _ _ _ _ _ _ _ _ ?_
    unfold L_law09_WorthKept_0T
    have hx : l[j]? = some l[j] := List.getElem?_eq_getElem (by omega)
    have hmem : l[j] ∈ l := List.getElem_mem _
    generalize l[j] = x at *
    have oI := hI x hmem
    have ob := hb x hmem
    refine Br.yes (by simp; omega) (owx (X.le W.base) hn rfl hx (newB_cp (vs := [int .i64 x.d, int .i64 x.m, int .i64 x.c, int .i64 x.a, slice x.p x.b.length x.cp]) rfl fun r h1 hr l1 A cs => ⟨cs, ?_⟩))
    generalize h1.setN r 0 [int .i64 x.d, int .i64 x.m, int .i64 x.c, int .i64 x.a, slice x.p x.b.length x.cp] = H at *
    have W1 := W.le l1
    have step : ∀ (x' : OpW) (G : Heap), OpWI h0 x' → x'.b.length ≤ 20 → x'.d ≠ 4 → LW h0 G s.S p B C sp f s.T N s.R → CallA Try.prog fn_law09_do [pointer (some ⟨p, 0, none⟩), pointer (some ⟨f.b 0, 0, none⟩), .int .i64 (N : Int), agg #[int .i64 x'.d, int .i64 x'.m, int .i64 x'.c, int .i64 x'.a, slice x'.p x'.b.length x'.cp]] G
        fun (v : Value) (h : Heap) => ∃ (n_1 : Int), v = int .i64 n_1 ∧ L_law09_WorthKept_0 (N : Int) (some ⟨p, 0, none⟩) (some ⟨f.b 0, 0, none⟩) q n qc (n : Int) (IntKind.wrap .i64 ((j : Int) + 1)) h (GoodW h0) := fun x' G oI' ob' hd WG => S_do09 WG oI' ob' fun h3 B3 C3 sp3 f3 W3 e3 => ⟨_, rfl, by
      rw [w1 (by omega), ← e3]
      exact ih (j + 1) h3 B3 C3 sp3 f3 _ (by omega) W3 (kept_do W.LA.sz W.eN W.tab hd hR) (doW_cur W.tab hc)⟩
    refine ⟨_, A.cell rfl, ?_⟩
    by_cases d4 : x.d = 4
    · have nr := none_of_le W.base hr
      have A2 := A.set (o := 0) (ws := [int .i64 0])
      refine Br.yes (by simpa using d4) ⟨A.canSt (by simp), _, A2.cell rfl, _, A2.cell rfl, _, A2.cell rfl, _, A2.cell rfl, _, _, _, A2.cell rfl, ?_⟩
      exact step ⟨0, x.m, x.c, x.a, x.p, x.cp, x.b⟩ _ { oI with d := I64_0 } ob (show (0 : Int) ≠ 4 by decide) (W.le (le_setN l1 hr))
    · refine Br.no (by simpa using d4) ⟨_, A.cell rfl, _, A.cell rfl, _, A.cell rfl, _, A.cell rfl, _, _, _, A.cell rfl, ?_⟩
      exact step x _ oI ob d4 W1
end
theorem law09_WorthKept_ok {h : Heap} {tp : Option Addr} {tn tc : Nat} (HT : curSh.Has h [.slice tp tn tc]) {mem : Int} (hm : (Lit.int .u8 mem).wf = true) {q : Option Addr} {n qc : Nat} (HO : (Sh.sl opwS).Has h [.slice q n qc]) :
    CallA Try.prog fn_law09_WorthKept [slice tp tn tc, .int .u8 mem, slice q n qc] h fun v h' => v = .bool true ∧ h.le h' := by
  obtain ⟨tmax, T, hT, CT, _⟩ := curs_of HT
  obtain ⟨omax, l, hl, X, hI⟩ := opw_of HO
  obtain ⟨k, ek, k1, k16⟩ := many_of hm
  refine F_law09_WorthKept _ _ _ _ _ _ _ _ _ ?_
  unfold F_law09_WorthKeptT
  refine S_law09_awake fun h1 l1 => ⟨_, rfl, Br.no rfl (S_large09 (X.le l1) hl omax fun b hb => ⟨_, rfl, ?_⟩)⟩
  cases b with
  | true => exact Br.yes rfl (goodW l1)
  | false =>
    obtain ⟨h30, h20⟩ := hb rfl
    refine Br.no rfl (Br.dec (fun _ => goodW l1) fun g20 => S_RCheck (CT.le l1) hT ⟨_, rfl, ?_⟩)
    by_cases e0 : tabE T ≠ 0
    · exact Br.yes (by simpa using e0) (goodW l1)
    have e0 : tabE T = 0 := Classical.byContradiction e0
    rw [e0, ek]
    obtain ⟨t1, t8, _⟩ := tab_parts e0
    refine Br.no rfl (S_lNew (fun e => absurd e (by omega)) fun n' w' en ew _ _ _ _ h2 p B C sp l2 A np nB => ⟨_, _, rfl, ?_⟩)
    have en : n' = k := by omega
    have ew : w' = tn := by omega
    subst en ew
    have eM : (newG n' w').M.length = n' := by unfold newG; rw [List.length_replicate]
    refine S_WNew (h0 := h) (Heap.le_trans l1 l2) (CT.le (Heap.le_trans l1 l2)) hT A (none_of_le l1 np) (none_of_le l1 nB) e0 rfl fun h3 f W => ⟨_, _, rfl, Br.no rfl (Br.no rfl (Br.no rfl ?_))⟩
    rw [eM] at W
    exact kept_0 (h0 := h) X hl (by omega) hI h20 n 0 h3 B C sp f ⟨newG n' w', T, fun i => rowG (newG n' w') (i : Int) T.length⟩ rfl W (fun i _ => rfl) hT.symm
end Go.Proofs.Ytghdadniddoboaa

/- The law WorthCuts. -/
namespace Go.Proofs.Ytghdadniddoboaa
open Go Go.Sy Go.Value
set_option linter.unusedVariables false
set_option linter.unusedSimpArgs false

/-! plain laws: greater haircuts -/
def cutLe (T U : List Cur) : Prop := ∀ c : Int, (curAt T c = none ∧ curAt U c = none) ∨ ∃ x y, curAt T c = some x ∧ curAt U c = some y ∧ y.rate = x.rate ∧ x.cut ≤ y.cut
theorem fit_le {a b : Int} (h : a ≤ b) (e1 : (fit a).2 = 0) (e2 : (fit b).2 = 0) : (fit a).1 ≤ (fit b).1 := by
  rw [fit_ok (fit_in (fun x => x e1)), fit_ok (fit_in (fun x => x e2))]; exact h
theorem worth_le {T U : List Cur} (h : cutLe T U) (r : ∀ c x, curAt T c = some x → 0 ≤ x.rate) (c : Nat) (a : Int) (e1 : (toldW T c a).2 = 0) (e2 : (toldW U c a).2 = 0) : (toldW U c a).1 ≤ (toldW T c a).1 := by
  unfold toldW worthR at *
  rcases h (c : Int) with ⟨h1, h2⟩ | ⟨x, y, h1, h2, h3, h4⟩
  · rw [h1] at e1; cases e1
  · rw [h1] at e1 ⊢
    rw [h2] at e2 ⊢
    dsimp only at *
    have hr := r _ x h1
    have em : ∀ b, md a b 100000000 false = fit (a * b / 100000000) := fun b => by
      unfold md dv
      rw [if_neg (by decide), if_neg (by decide)]
    rw [em] at e1 e2 ⊢
    rw [em]
    refine fit_le (Int.ediv_le_ediv (by decide) ?_) e2 e1
    rw [h3]
    unfold partC
    by_cases ha : a < 0
    · rw [if_pos ha, if_pos ha]
      exact Int.mul_le_mul_of_nonpos_left (by omega) (Int.mul_le_mul_of_nonneg_left (by omega) hr)
    · rw [if_neg ha, if_neg ha]
      exact Int.mul_le_mul_of_nonneg_left (Int.mul_le_mul_of_nonneg_left (by omega) hr) (by omega)
theorem short_eq {T U : List Cur} (h : cutLe T U) (c : Nat) (a : Int) : toldS U c a = toldS T c a := by
  have : plainR U (c : Int) a = plainR T (c : Int) a := by
    unfold plainR
    rcases h (c : Int) with ⟨h1, h2⟩ | ⟨x, y, h1, h2, h3, h4⟩
    · rw [h1, h2]
    · rw [h1, h2]; dsimp only; rw [h3]
  unfold toldS
  rw [this]
theorem fit_pos {a : Int} (h : 0 ≤ a) : 0 ≤ (fit a).1 := by
  unfold fit
  split
  · exact h
  · exact Int.le_refl 0
theorem short_pos {T : List Cur} (r : ∀ c x, curAt T c = some x → 0 ≤ x.rate) (c : Nat) (a : Int) : 0 ≤ (toldS T c a).1 := by
  unfold toldS
  split
  · rename_i ha
    refine fit_pos ?_
    have : (plainR T (c : Int) a).1 ≤ 0 := by
      unfold plainR
      cases h : curAt T (c : Int) with
      | none => exact Int.le_refl 0
      | some x =>
        dsimp only
        have hr := r _ x h
        unfold md dv
        rw [if_neg (by decide), if_neg (by decide)]
        have h1 : a * x.rate ≤ 0 := by
          have := Int.mul_nonneg (show 0 ≤ -a by omega) hr
          rw [Int.neg_mul] at this
          omega
        unfold fit
        split
        · show a * x.rate / 10000 ≤ 0
          omega
        · exact Int.le_refl 0
    omega
  · exact Int.le_refl 0
theorem chain_err {s : Int} {x : Td} {r : List Td} (h : (chainT s (x :: r)).2 = 0) : x.2 = 0 ∧ (fit (s + x.1)).2 = 0 ∧ chainT s (x :: r) = chainT (s + x.1) r := by
  rw [chainT] at h ⊢
  by_cases e1 : x.2 ≠ 0
  · rw [if_pos e1] at h; cases h
  rw [if_neg e1] at h ⊢
  by_cases e2 : (fit (s + x.1)).2 ≠ 0
  · rw [if_pos e2] at h; cases h
  rw [if_neg e2]
  exact ⟨Classical.byContradiction e1, Classical.byContradiction e2, rfl⟩
theorem chain_le {f g : Nat → Int → Td} (hfg : ∀ c b, (f c b).2 = 0 → (g c b).2 = 0 → (g c b).1 ≤ (f c b).1) : ∀ (row : List Int) (c : Nat) (s s' : Int), s' ≤ s → (chainT s (rowF f c row)).2 = 0 → (chainT s' (rowF g c row)).2 = 0 → (chainT s' (rowF g c row)).1 ≤ (chainT s (rowF f c row)).1
  | [], c, s, s', h, _, _ => h
  | b :: r, c, s, s', h, e1, e2 => by
    rw [rowF] at e1 e2 ⊢
    rw [rowF]
    obtain ⟨a1, _, a3⟩ := chain_err e1
    obtain ⟨b1, _, b3⟩ := chain_err e2
    rw [a3] at e1 ⊢
    rw [b3] at e2 ⊢
    have := hfg c b a1 b1
    exact chain_le hfg r (c + 1) _ _ (by omega) e1 e2
theorem chain_pos {g : Nat → Int → Td} (hg : ∀ c b, 0 ≤ (g c b).1) : ∀ (row : List Int) (c : Nat) (s : Int), 0 ≤ s → (chainT s (rowF g c row)).2 = 0 → 0 ≤ (chainT s (rowF g c row)).1
  | [], c, s, h, _ => h
  | b :: r, c, s, h, e => by
    rw [rowF] at e ⊢
    obtain ⟨_, _, a3⟩ := chain_err e
    rw [a3] at e ⊢
    have := hg c b
    exact chain_pos hg r (c + 1) _ (by omega) e
theorem wCut_is {l l' : List Cur} {cur r : Int} (e : wCut l cur r = some l') : ∃ (j : Nat) (y : Cur), cur = (j : Int) ∧ l[j]? = some y ∧ l' = l.set j ⟨y.code, y.rate, r⟩ := by
  unfold wCut at e
  split at e
  · rename_i h0
    cases hy : l[cur.toNat]? with
    | none => rw [hy] at e; cases e
    | some y =>
      rw [hy] at e
      dsimp only at e
      unfold withL at e
      split at e
      · cases e; exact ⟨cur.toNat, y, by omega, hy, rfl⟩
      · cases e
  · cases e
theorem cuts_le {T U V : List Cur} {cur low high : Int} (h1 : wCut T cur low = some U) (h2 : wCut U cur high = some V) (hl : low ≤ high) : cutLe U V := by
  obtain ⟨j, y, rfl, hy, rfl⟩ := wCut_is h1
  obtain ⟨i, z, ei, hz, rfl⟩ := wCut_is h2
  have ei : i = j := by omega
  subst ei
  have hi : i < T.length := (List.getElem?_eq_some_iff.1 hy).1
  rw [List.getElem?_set_self hi] at hz
  cases hz
  intro c
  by_cases hc : 0 ≤ c
  · by_cases e : c.toNat = i
    · refine .inr ⟨⟨y.code, y.rate, low⟩, ⟨y.code, y.rate, high⟩, ?_, ?_, rfl, hl⟩
      · unfold curAt; rw [if_pos hc, e, List.getElem?_set_self hi]
      · unfold curAt; rw [if_pos hc, e, List.getElem?_set_self (by rw [List.length_set]; exact hi)]
    · have e2 : curAt ((T.set i ⟨y.code, y.rate, low⟩).set i ⟨y.code, y.rate, high⟩) c = curAt (T.set i ⟨y.code, y.rate, low⟩) c := by
        unfold curAt
        rw [if_pos hc, if_pos hc, List.getElem?_set_ne (fun x => e x.symm)]
      cases e3 : curAt (T.set i ⟨y.code, y.rate, low⟩) c with
      | none => exact .inl ⟨rfl, by rw [← e3]; exact e2⟩
      | some x => exact .inr ⟨x, x, rfl, by rw [← e3]; exact e2, rfl, Int.le_refl _⟩
  · refine .inl ⟨?_, ?_⟩ <;> (unfold curAt; rw [if_neg hc])
theorem rate_pos {T : List Cur} (h : tabE T = 0) : ∀ c x, curAt T c = some x → 0 ≤ x.rate := fun c x e => by
  unfold curAt at e
  split at e
  · have := inb_of (all_inb h) e
    omega
  · cases e
section
variable {h0 h : Heap} {S : Lg} {p B C : Nat} {sp : List Value} {f : WoF} {T : List Cur} {N : Nat} {R : Nat → List Int}
/-- all that isn't of them is kept -/
theorem LW.top (W : LW h0 h S p B C sp f T N R) : ∃ g : Heap, h0.le g ∧ LW g h S p B C sp f T N R ∧ ∀ (hk : Heap) (q : Option Addr) (vs : List Value), LW h0 hk S p B C sp f T N R → rdL h q vs → (∀ b o, q = some ⟨b, o, none⟩ → hk b = none) → rdL g q vs := by
  have hD : ∀ x, (x == p || (x == B || famD (3 + 3 * N) f.b x)) = true → x = p ∨ x = B ∨ famD (3 + 3 * N) f.b x = true := fun x hx => by simpa using hx
  refine ⟨h.wo fun x => x == p || (x == B || famD (3 + 3 * N) f.b x), le_wo W.base fun x hx => ?_, { W with base := wo_le _ _, np := wo_none (by simp), nB := wo_none (by simp), fr := fun i hi => wo_none (by simp [famD_i hi]) }, fun hk q vs Wk r hq => rd_wo r fun b o e => ?_⟩
  · rcases hD x hx with rfl | rfl | hx
    · exact W.np
    · exact W.nB
    · obtain ⟨i, hi, rfl⟩ := famD_t hx
      exact W.fr i hi
  · have hb := hq b o e
    have e1 : (b == p) = false := by simpa using fun e => Wk.LA.ap.ne hb e.symm
    have e2 : (b == B) = false := by simpa using fun e => Wk.LA.ab.ne hb e.symm
    simp only [e1, e2, Wk.X.fam.fresh hb, Bool.or_false]
end
section
variable {h0 hk : Heap} {S : Lg} {p B C : Nat} {sp : List Value} {f : WoF} {U V : List Cur} {N : Nat} {R : Nat → List Int} {cur high : Int}
def ntL (U : List Cur) (R : Nat → List Int) (j : Nat) : List Int := (List.range j).map fun i : Nat => (netW U (R i)).1
def shL (U : List Cur) (R : Nat → List Int) (j : Nat) : List Int := (List.range j).map fun i : Nat => (shW U (R i)).1
theorem cuts_2 (hV : cutLe U V) (tU : tabE U = 0) (hN : N ≤ 1000) {q1 q2 : Option Addr} {c1 c2 : Nat} (he : ∀ i, i < N → (netW U (R i)).2 = 0 ∧ (shW U (R i)).2 = 0) {h : Heap} (l0 : h0.le h) (I1 : Ints .i64 h q1 (ntL U R N)) (I2 : Ints .i64 h q2 (shL U R N)) (X : WoX h f V N N (fun i => acOf V (R i))) :
    ∀ (m j : Nat), m + j = N → L_law09_WorthCuts_2 (N : Int) (some ⟨f.b 0, 0, none⟩) q1 N c1 q2 N c2 (j : Int) h (GoodW h0) := by
  intro m
  induction m with
  | zero =>
    intro j hj
    refine L_law09_WorthCuts_2r _ _ _ _ _ _ _ _ _ _ _ ?_
    unfold L_law09_WorthCuts_2T
    exact Br.no (by simp; omega) (goodW l0)
  | succ m ih =>
    intro j hj
    refine L_law09_WorthCuts_2r _ _ _ _ _ _ _ _ _ _ _ ?_
    unfold L_law09_WorthCuts_2T
    have hjN : j < N := by omega
    have hj' : (0 : Int) ≤ (j : Int) ∧ (j : Int) < (N : Int) := by omega
    obtain ⟨en, es⟩ := he j hjN
    have esh : shW V (R j) = shW U (R j) := by
      unfold shW
      rw [rowF_ext (R j) 0 fun c _ _ b => short_eq hV c b]
    have nn : (ntL U R N)[j]? = some (netW U (R j)).1 := by unfold ntL; rw [List.getElem?_map, List.getElem?_range hjN]; rfl
    have ns : (shL U R N)[j]? = some (shW U (R j)).1 := by unfold shL; rw [List.getElem?_map, List.getElem?_range hjN]; rfl
    have ln : (ntL U R N).length = N := by unfold ntL; simp
    have ls : (shL U R N).length = N := by unfold shL; simp
    have sp : 0 ≤ (shW U (R j)).1 := chain_pos (fun c b => short_pos (rate_pos tU) c b) (R j) 0 0 (by decide) es
    refine Br.yes (by simp; omega) (S_wNet X ?_)
    rw [if_pos hj', Int.toNat_natCast]
    refine ⟨_, _, rfl, S_wShort X ?_⟩
    rw [if_pos hj', Int.toNat_natCast]
    have e2 : (acOf V (R j)).sh = shW U (R j) := esh
    have e1 : (acOf V (R j)).nt = netW V (R j) := rfl
    rw [e1, e2, es]
    have tail : Br ((0 : Int) != 0) (Ret h (GoodW h0) (.bool false)) (0 ≤ (j : Int) ∧ (j : Int) < (N : Int) ∧ withAddr q2 fun b o => ∃ n, h.cell b (o + (j : Int).toNat) = some (.int .i64 n) ∧ Br ((shW U (R j)).1 != n) (Ret h (GoodW h0) (.bool false)) (Br (decide ((shW U (R j)).1 < 0)) (Ret h (GoodW h0) (.bool false)) (L_law09_WorthCuts_2 (N : Int) (some ⟨f.b 0, 0, none⟩) q1 N c1 q2 N c2 (IntKind.wrap .i64 ((j : Int) + 1)) h (GoodW h0)))) := by
      refine Br.no rfl (ix I2 ls rfl ns (Br.no (by simp) (Br.no (decide_eq_false (by omega)) ?_)))
      rw [w1 (by omega)]
      exact ih (j + 1) (by omega)
    refine ⟨_, _, rfl, Br.intro (fun g => ?_) fun _ => tail⟩
    have g : (netW V (R j)).2 = 0 := by simpa using g
    have hle : (netW V (R j)).1 ≤ (netW U (R j)).1 := chain_le (fun c b => worth_le hV (rate_pos tU) c b) (R j) 0 0 0 (Int.le_refl 0) en g
    exact ix I1 ln rfl nn (Br.no (decide_eq_false (by omega)) tail)
theorem cuts_1 {T : List Cur} {low : Int} (hU : wCut T cur low = some U) (hl : low ≤ high) (W0 : LW h0 hk S p B C sp f U N R) :
    ∀ (m j : Nat) (h : Heap) (q1 q2 : Option Addr) (c1 c2 : Nat), m + j = N → hk.le h → OwnL hk h [.int .i64 0] q1 c1 (intsV .i64 (ntL U R j)) → OwnL hk h [.int .i64 0] q2 c2 (intsV .i64 (shL U R j)) → (∀ x, q1 = some ⟨x, 0, none⟩ → q2 ≠ some ⟨x, 0, none⟩) → (∀ i, i < j → (netW U (R i)).2 = 0 ∧ (shW U (R i)).2 = 0) →
      L_law09_WorthCuts_1 cur high (N : Int) (some ⟨f.b 0, 0, none⟩) q1 j c1 q2 j c2 (j : Int) h (GoodW h0) := by
  have hN : N ≤ 1000 := by have := W0.LA.sz.n16; have := W0.eN; omega
  intro m
  induction m with
  | zero =>
    intro j h q1 q2 c1 c2 hj lk o1 o2 n12 he
    refine L_law09_WorthCuts_1r _ _ _ _ _ _ _ _ _ _ _ _ _ ?_
    unfold L_law09_WorthCuts_1T
    obtain rfl : j = N := by omega
    have W := W0.le lk
    obtain ⟨g, g1, Wg, rd⟩ := W.top
    have hq : ∀ {q : Option Addr} {c : Nat} {vs : List Value}, OwnL hk h [.int .i64 0] q c vs → ∀ b o, q = some ⟨b, o, none⟩ → hk b = none := fun x b o e => by
      rcases x with ⟨_, q, _⟩ | ⟨r, s, q, z, _⟩
      · rw [q] at e; cases e
      · rw [q] at e; cases e; exact z
    have r1 := rd hk q1 _ W0 o1.rd (hq o1)
    have r2 := rd hk q2 _ W0 o2.rd (hq o2)
    refine Br.no (by simp) (S_WCut Wg fun h2 f2 W2 e2 => ⟨_, rfl, ?_⟩)
    cases hV : wCut U cur high with
    | none => exact Br.yes rfl (goodW (W2.back g1).base)
    | some V =>
      rw [hV] at W2
      rw [← e2]
      exact Br.no rfl (cuts_2 (cuts_le hU hV hl) W0.tab hN he (W2.back g1).base (rdL_le W2.base r1) (rdL_le W2.base r2) W2.X j 0 rfl)
  | succ m ih =>
    intro j h q1 q2 c1 c2 hj lk o1 o2 n12 he
    refine L_law09_WorthCuts_1r _ _ _ _ _ _ _ _ _ _ _ _ _ ?_
    unfold L_law09_WorthCuts_1T
    have W := W0.le lk
    have hj' : (0 : Int) ≤ (j : Int) ∧ (j : Int) < (N : Int) := by omega
    refine Br.yes (by simp; omega) (S_wNet W.X ?_)
    rw [if_pos hj', Int.toNat_natCast]
    refine ⟨_, _, rfl, S_wShort W.X ?_⟩
    rw [if_pos hj', Int.toNat_natCast]
    refine ⟨_, _, rfl, Br.intro (fun _ => goodW W.base) fun g1 => Br.intro (fun _ => goodW W.base) fun g2 => ?_⟩
    have g1 : (netW U (R j)).2 = 0 := by simpa [acOf] using g1
    have g2 : (shW U (R j)).2 = 0 := by simpa [acOf] using g2
    refine push1 o1 (by decide) lk (by omega) rfl rfl (by rw [intsV_length]; simp [ntL]) fun r h1 q1' c1' h2 hr l1 l2 o1' keep how => ?_
    have o2a := (o2.le l1).mv fun x xs e A => keepAt keep A fun e4 => n12 x e4 e
    have n12' : ∀ x, q1' = some ⟨x, 0, none⟩ → q2 ≠ some ⟨x, 0, none⟩ := fun x e => by
      rcases how with rfl | ⟨s, e3, hs⟩
      · exact n12 x e
      · rw [e3] at e; cases e; exact (o2.le l1).fresh hs
    refine push1 o2a (by decide) l2 (by omega) rfl rfl (by rw [intsV_length]; simp [shL]) fun r3 h3 q2' c2' h4 hr3 l3 l4 o2' keep2 how2 => ?_
    rw [w1 (by omega)]
    refine ih (j + 1) h4 q1' q2' c1' c2' (by omega) l4 ?_ ?_ (fun x e e4 => ?_) fun i hi => ?_
    · have : ntL U R (j + 1) = ntL U R j ++ [(netW U (R j)).1] := by unfold ntL; rw [List.range_succ, List.map_append]; rfl
      rw [this, intsV_append]
      exact (o1'.le l3).mv fun x xs e A => keepAt keep2 A (n12' x e)
    · have : shL U R (j + 1) = shL U R j ++ [(shW U (R j)).1] := by unfold shL; rw [List.range_succ, List.map_append]; rfl
      rw [this, intsV_append]
      exact o2'
    · rcases how2 with rfl | ⟨s, e3, hs⟩
      · exact n12' x e e4
      · rw [e3] at e4; cases e4; exact (o1'.le l3).fresh hs e
    · by_cases e : i = j
      · subst e; exact ⟨g1, g2⟩
      · exact he i (by omega)
variable {q : Option Addr} {l : List OpW} {n qc : Nat}
theorem cuts_0 {low : Int} (hlh : low ≤ high) (X : Arr opwV h0 q l) (hn : l.length = n) (hs : n ≤ 1000) (hI : ∀ x ∈ l, OpWI h0 x) (hb : ∀ x ∈ l, x.b.length ≤ 20) :
    ∀ (m j : Nat) (h : Heap) (B C : Nat) (sp : List Value) (f : WoF) (s : St9), m + j = n → LW h0 h s.S p B C sp f s.T N s.R → L_law09_WorthCuts_0 cur low high (N : Int) (some ⟨p, 0, none⟩) (some ⟨f.b 0, 0, none⟩) q n qc (n : Int) (j : Int) h (GoodW h0) := by
  intro m
  induction m with
  | zero =>
    intro j h B C sp f s hj W
    refine L_law09_WorthCuts_0r _ _ _ _ _ _ _ _ _ _ _ _ _ ?_
    unfold L_law09_WorthCuts_0T
    refine Br.no (by simp; omega) (S_WCut W fun h2 f2 W2 e2 => ⟨_, rfl, ?_⟩)
    cases hU : wCut s.T cur low with
    | none => exact Br.yes rfl (goodW W2.base)
    | some U =>
      rw [hU] at W2
      rw [← e2]
      exact Br.no rfl (cuts_1 hU hlh W2 N 0 h2 none none 0 0 rfl h2.le_refl (OwnL.nil _ _ _) (OwnL.nil _ _ _) (fun x e => by cases e) fun i hi => absurd hi (by omega))
  | succ m ih =>
    intro j h B C sp f s hj W
    refine L_law09_WorthCuts_0r _ _ _ _ _ _ _ _ _ _ _ _ _ ?_
    unfold L_law09_WorthCuts_0T
    have hx : l[j]? = some l[j] := List.getElem?_eq_getElem (by omega)
    have hmem : l[j] ∈ l := List.getElem_mem _
    generalize l[j] = x at *
    refine Br.yes (by simp; omega) (owx (X.le W.base) hn rfl hx (newB_cp (vs := [int .i64 x.d, int .i64 x.m, int .i64 x.c, int .i64 x.a, slice x.p x.b.length x.cp]) rfl fun r h1 hr l1 A cs => ⟨cs, _, A.cell rfl, _, A.cell rfl, _, A.cell rfl, _, A.cell rfl, _, _, _, A.cell rfl, ?_⟩))
    refine S_do09 (W.le l1) (hI x hmem) (hb x hmem) fun h3 B3 C3 sp3 f3 W3 e3 => ⟨_, rfl, ?_⟩
    rw [w1 (by omega), ← e3]
    exact ih (j + 1) h3 B3 C3 sp3 f3 _ (by omega) W3
end
theorem law09_WorthCuts_ok {h : Heap} {tp : Option Addr} {tn tc : Nat} (HT : curSh.Has h [.slice tp tn tc]) {mem : Int} (hm : (Lit.int .u8 mem).wf = true) {q : Option Addr} {n qc : Nat} (HO : (Sh.sl opwS).Has h [.slice q n qc]) {cur low high : Int} (hc : I64 cur) (hlow : I64 low) (hhigh : I64 high) :
    CallA Try.prog fn_law09_WorthCuts [slice tp tn tc, .int .u8 mem, slice q n qc, .int .i64 cur, .int .i64 low, .int .i64 high] h fun v h' => v = .bool true ∧ h.le h' := by
  obtain ⟨tmax, T, hT, CT, _⟩ := curs_of HT
  obtain ⟨omax, l, hl, X, hI⟩ := opw_of HO
  obtain ⟨k, ek, k1, k16⟩ := many_of hm
  refine F_law09_WorthCuts _ _ _ _ _ _ _ _ _ _ _ _ ?_
  unfold F_law09_WorthCutsT
  refine S_law09_awake fun h1 l1 => ⟨_, rfl, Br.no rfl (S_large09 (X.le l1) hl omax fun b hb => ⟨_, rfl, ?_⟩)⟩
  cases b with
  | true => exact Br.yes rfl (goodW l1)
  | false =>
    obtain ⟨h30, h20⟩ := hb rfl
    refine Br.no rfl (Br.dec (fun _ => goodW l1) fun g20 => S_RCheck (CT.le l1) hT ⟨_, rfl, ?_⟩)
    by_cases e0 : tabE T ≠ 0
    · exact Br.yes (by simpa using e0) (goodW l1)
    have e0 : tabE T = 0 := Classical.byContradiction e0
    rw [e0, ek]
    obtain ⟨t1, t8, _⟩ := tab_parts e0
    refine Br.no rfl (Br.dec (fun _ => goodW l1) fun glh => ?_)
    refine S_lNew (fun e => absurd e (by omega)) fun n' w' en ew _ _ _ _ h2 p B C sp l2 A np nB => ⟨_, _, rfl, ?_⟩
    have en : n' = k := by omega
    have ew : w' = tn := by omega
    subst en ew
    have eM : (newG n' w').M.length = n' := by unfold newG; rw [List.length_replicate]
    refine S_WNew (h0 := h) (Heap.le_trans l1 l2) (CT.le (Heap.le_trans l1 l2)) hT A (none_of_le l1 np) (none_of_le l1 nB) e0 rfl fun h3 f W => ⟨_, _, rfl, Br.no rfl (Br.no rfl (Br.no rfl ?_))⟩
    rw [eM] at W
    exact cuts_0 (h0 := h) (by omega) X hl (by omega) hI h20 n 0 h3 B C sp f ⟨newG n' w', T, fun i => rowG (newG n' w') (i : Int) T.length⟩ rfl W
end Go.Proofs.Ytghdadniddoboaa
