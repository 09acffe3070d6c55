import Derived.Test.YtghdadniddoboaaM04
import Derived.Test.YtghdadniddoboaaM09
import Derived.Test.YtghdadniddoboaaM11
/- The reference's shares: walked, first half. -/
namespace Go.Proofs.Ytghdadniddoboaa
open Go Go.Sy Go.Value
set_option linter.unusedVariables false
set_option linter.unusedSimpArgs false

theorem ixb {k : IntKind} {h : Heap} {a : Option Addr} {l : List Int} {N : Nat} (I : Ints k h a l) (hn : l.length = N) {j : Nat} {i : Int} (hi : i = (j : Int)) {x : Int} (hx : l[j]? = some x) {Q : Nat → Int → Prop} (kk : ∀ b, Q b x) :
    0 ≤ i ∧ i < (N : Int) ∧ withAddr a fun b o => ∃ n, h.cell b (o + i.toNat) = some (.int k n) ∧ Q b n := by
  subst hi hn
  have hj : j < l.length := (List.getElem?_eq_some_iff.1 hx).1
  obtain ⟨b, o, e, hc⟩ := I.at hj
  refine ⟨by omega, by omega, withAddr_intro e ⟨x, ?_, kk b⟩⟩
  have : l[j] = x := by rw [List.getElem?_eq_getElem hj] at hx; exact Option.some.inj hx
  rw [Int.toNat_natCast, hc, this]
/-- a call that is shown a part of what there is -/
theorem stb {P : Program} {f : FuncId} {args : List Value} {g h : Heap} {K : Value → Heap → Prop} (l : g.le h)
    (c : CallA P f args g fun v g' => g.le g' ∧ ∀ h', g'.le h' → h.le h' → (∀ r o, h r = some o → g r = none → g' r = none) → K v h') : CallA P f args h K :=
  (c.frame2 l).mono fun v h' ⟨g', k, l', keep, off⟩ => k.2 h' l' (fun r o e => by
    cases hg : g r with
    | none => exact keep r o e hg
    | some y => have := l r y hg; rw [e] at this; cases this; exact l' r _ (k.1 r _ hg)) off
theorem own_stb {g h g' h' : Heap} {z : List Value} {p : Option Addr} {c : Nat} {vs : List Value} (x : OwnL g h z p c vs) (l : h.le h') (off : ∀ r o, h r = some o → g r = none → g' r = none) : OwnL g' h' z p c vs := by
  rcases x with x | ⟨r, sp, e, e0, a, k⟩
  · exact .inl x
  · obtain ⟨T, ea⟩ := a
    exact .inr ⟨r, sp, e, off r _ ea e0, At.le ⟨T, ea⟩ l, k⟩
theorem at_stb {g h g' : Heap} {b : Nat} {vs : List Value} (a : At h b vs) (e : g b = none) (off : ∀ r o, h r = some o → g r = none → g' r = none) : g' b = none := by
  obtain ⟨T, ea⟩ := a
  exact off b _ ea e
/-- one more behind a list of one's own: what lies apart stays -/
theorem pushG {h0 h : Heap} {p : Option Addr} {c j : Nat} {z vs ws : List Value} {T t : TypeId} {J : Option Addr → Nat → Heap → Prop} (x : OwnL h0 h z p c vs) (hz : 0 < z.length) (l0 : h0.le h) (hj : j ≤ 1000) (hw : ws.length = z.length) (aw : allCells ws = true) (hv : vs.length = j * z.length)
    (k : ∀ p' c' h', h0.le h' → OwnL h0 h' z p' c' (vs ++ ws) →
      (∀ z' q cq lq, OwnL h0 h z' q cq lq → Dj p q → OwnL h0 h' z' q cq lq ∧ Dj p' q) → (∀ b xs, At h b xs → p ≠ some ⟨b, 0, none⟩ → At h' b xs ∧ p' ≠ some ⟨b, 0, none⟩) → J p' c' h') :
    newB h ws T fun r h1 => AppA z t h1 p j c 1 (some ⟨r, 0, none⟩) J := by
  refine push1 x hz l0 (by omega) hw aw hv fun r h1 p' c' h' hr l1 l' w keep how => ?_
  have A : ∀ b xs, At h b xs → p ≠ some ⟨b, 0, none⟩ → At h' b xs ∧ p' ≠ some ⟨b, 0, none⟩ := fun b xs a e => ⟨keepAt keep (a.le l1) e, push_ne how (a.le l1) e⟩
  refine k p' c' h' l' w (fun z' q cq lq o d => ⟨o.mv fun b xs e a => (A b xs a fun e2 => d b e2 e).1, fun B e1 e2 => ?_⟩) A
  rcases o with ⟨_, e, _⟩ | ⟨s, sp, e, _, a, _⟩
  · rw [e] at e2; cases e2
  · rw [e] at e2
    have e2 : s = B := by simpa using e2
    subst e2
    exact (A s _ a fun e3 => d s e3 e).2 e1
/-- a number of the reference's, as it stands in memory -/
abbrev BV := Bool × Option Addr × Nat × Nat
def bv (w : BV) : Value := agg #[.bool w.1, slice w.2.1 w.2.2.1 w.2.2.2]
def bc (w : BV) : List Value := [.bool w.1, slice w.2.1 w.2.2.1 w.2.2.2]
theorem bc_len (w : BV) : (bc w).length = 2 := rfl
theorem bv_of {h : Heap} {v : Value} {x : Int} {b : Nat} (n : BigR h v x b) : ∃ w : BV, v = bv w := by
  obtain ⟨neg, p, c, ds, rfl, _⟩ := n
  exact ⟨(neg, p, ds.length, c), rfl⟩
/-- the way of the first half -/
structure R1 (h0 g h : Heap) (sb gb : Nat) (sv gv : BV) (op lp : Option Addr) (oc lc : Nat) (ol : List Int) (vs : List BV) : Prop where
  l0 : h0.le g
  l : g.le h
  sA : At h sb (bc sv)
  gA : At h gb (bc gv)
  gN : g gb = none
  oO : OwnL g h [.int .i64 0] op oc (intsV .i64 ol)
  oL : OwnL g h [.bool false, slice none 0 0] lp lc (vs.flatMap bc)
  d : Dj op lp
  no : op ≠ some ⟨gb, 0, none⟩
  nl : lp ≠ some ⟨gb, 0, none⟩
  so : op ≠ some ⟨sb, 0, none⟩
  sl : lp ≠ some ⟨sb, 0, none⟩
  gs : sb ≠ gb
section
variable {h0 g h g' h' : Heap} {sb gb : Nat} {sv gv : BV} {op lp : Option Addr} {oc lc : Nat} {ol : List Int} {vs : List BV}
theorem R1.call (S : R1 h0 g h sb gb sv gv op lp oc lc ol vs) (lg : g.le g') (l1 : g'.le h') (lh : h.le h') (off : ∀ r o, h r = some o → g r = none → g' r = none) : R1 h0 g' h' sb gb sv gv op lp oc lc ol vs :=
  ⟨Heap.le_trans S.l0 lg, l1, S.sA.le lh, S.gA.le lh, at_stb S.gA S.gN off, own_stb S.oO lh off, own_stb S.oL lh off, S.d, S.no, S.nl, S.so, S.sl, S.gs⟩
theorem R1.grow (S : R1 h0 g h sb gb sv gv op lp oc lc ol vs) (lh : h.le h') : R1 h0 g h' sb gb sv gv op lp oc lc ol vs :=
  ⟨S.l0, Heap.le_trans S.l lh, S.sA.le lh, S.gA.le lh, S.gN, S.oO.le lh, S.oL.le lh, S.d, S.no, S.nl, S.so, S.sl, S.gs⟩
end
theorem ln_flat (vs : List BV) : (vs.flatMap bc).length = vs.length * 2 := arr_len bc_len vs
def Bgs (g : Heap) (vs : List BV) (rs : List Int) : Prop := vs.length = rs.length ∧ ∀ i v, vs[i]? = some v → BigR g (bv v) (rs.getD i 0) 5000
theorem Bgs.le {g g' : Heap} {vs : List BV} {rs : List Int} (b : Bgs g vs rs) (l : g.le g') : Bgs g' vs rs := ⟨b.1, fun i v e => (b.2 i v e).le l⟩
theorem Bgs.snoc {g : Heap} {vs : List BV} {rs : List Int} {v : BV} {x : Int} (b : Bgs g vs rs) (n : BigR g (bv v) x 5000) : Bgs g (vs ++ [v]) (rs ++ [x]) := by
  refine ⟨by rw [List.length_append, List.length_append, b.1]; rfl, fun i w e => ?_⟩
  rw [List.getD_eq_getElem?_getD]
  by_cases hi : i < vs.length
  · rw [List.getElem?_append_left hi] at e
    rw [List.getElem?_append_left (by rw [← b.1]; exact hi), ← List.getD_eq_getElem?_getD]
    exact b.2 i w e
  · have hl := (List.getElem?_eq_some_iff.1 e).1
    rw [List.length_append] at hl
    have hl : i = vs.length := by simp at hl; omega
    subst hl
    rw [List.getElem?_append_right (Nat.le_refl _), Nat.sub_self] at e
    have e : v = w := by simpa using e
    subst e
    rw [b.1, List.getElem?_append_right (Nat.le_refl _), Nat.sub_self]
    exact n
section
variable {h0 : Heap} {K : Value → Heap → Prop}
theorem rshares_1 {q : Option Addr} {ws : List Int} {n c : Nat} {t s : Int} (I : Ints .i64 h0 q ws) (hn : ws.length = n) (hn2 : n ≤ 64) (hI : allI64 ws) (ht : I64 t) (h0t : 0 ≤ t) (hw : geL ws) (hs : s = sumL ws) (hs0 : 0 < s) {sb gb : Nat} {sv : BV}
    (k : ∀ g h gv op lp oc lc vs, R1 h0 g h sb gb sv gv op lp oc lc (baseL t s ws) vs → BigR g (bv sv) s 100 → BigR g (bv gv) (sumL (baseL t s ws)) 2000 → Bgs g vs (restL t s ws) →
      newB h (repL n [.bool false]) 4 fun (r : Nat) (h : Heap) => L_ref02_Shares_2 t q n c op n oc lp n lc gb (some { block := r, off := 0 }) n n h K) :
    ∀ (m j : Nat) (g h : Heap) (gv : BV) (op lp : Option Addr) (oc lc : Nat) (vs : List BV), m + j = n → R1 h0 g h sb gb sv gv op lp oc lc (baseL t s (ws.take j)) vs →
      BigR g (bv sv) s 100 → BigR g (bv gv) (sumL (baseL t s (ws.take j))) (1001 + j) → Bgs g vs (restL t s (ws.take j)) →
    L_ref02_Shares_1 t q n c sb op j oc lp j lc gb (j : Int) h K := by
  intro m
  induction m with
  | zero =>
    intro j g h gv op lp oc lc vs hj S bs bg bl
    refine L_ref02_Shares_1r _ _ _ _ _ _ _ _ _ _ _ _ _ _ _ ?_
    unfold L_ref02_Shares_1T
    have hjn : j = n := by omega
    subst hjn
    rw [List.take_of_length_le (by omega)] at S bg bl
    refine Br.no (by simp) ⟨by omega, by omega, by omega, by omega, ?_⟩
    rw [Int.toNat_natCast]
    exact k g h gv op lp oc lc vs S bs (bg.more (by omega)) bl
  | succ m ih =>
    intro j g h gv op lp oc lc vs hj S bs bg bl
    refine L_ref02_Shares_1r _ _ _ _ _ _ _ _ _ _ _ _ _ _ _ ?_
    unfold L_ref02_Shares_1T
    have hx : ws[j]? = some ws[j] := List.getElem?_eq_getElem (by omega)
    have hmem : ws[j] ∈ ws := List.getElem_mem _
    have e1 : ws.take (j + 1) = ws.take j ++ [ws[j]] := by rw [List.take_add_one, hx]; rfl
    have hwj := hw _ hmem
    have hws := (sum_ge hw).2 _ hmem
    have hIj := hI _ hmem
    have eb : baseL t s (ws.take (j + 1)) = baseL t s (ws.take j) ++ [t * ws[j] / s] := by rw [e1]; unfold baseL; rw [List.map_append]; rfl
    have er : restL t s (ws.take (j + 1)) = restL t s (ws.take j) ++ [t * ws[j] % s] := by rw [e1]; unfold restL; rw [List.map_append]; rfl
    have l1 : (baseL t s (ws.take j)).length = j := by rw [baseL_len, List.length_take]; omega
    have l2 : (restL t s (ws.take j)).length = j := by rw [restL_len, List.length_take]; omega
    have nx := fun g h gv op lp oc lc vs => ih (j + 1) g h gv op lp oc lc vs (by omega)
    rw [eb, er, sumL_append] at nx
    generalize ws[j] = w at *
    have hq0 : 0 ≤ t * w / s := Int.ediv_nonneg (Int.mul_nonneg h0t hwj) (by omega)
    have hqt : t * w / s ≤ t := Int.ediv_le_of_le_mul hs0 (Int.mul_le_mul_of_nonneg_left (by omega) h0t)
    have hdm : t * w + -(t * w / s * s) = t * w % s := by have h1 := Int.mul_ediv_add_emod (t * w) s; have h2 := Int.mul_comm s (t * w / s); omega
    generalize hBL : baseL t s (ws.take j) = BL at *
    generalize hRL : restL t s (ws.take j) = RL at *
    refine Br.yes (by simp; omega) (ixb ((I.le S.l0).le S.l) hn rfl hx fun bq => ?_)
    refine stb S.l (S_Of ht fun v1 g1 lg1 b1 => ⟨lg1, fun h1 m1 lh1 off1 => ?_⟩)
    have S := S.call lg1 m1 lh1 off1
    obtain ⟨w1, rfl⟩ := bv_of b1.raw
    refine ⟨_, _, _, _, rfl, .inl lh1, stb S.l (S_Of hIj fun v2 g2 lg2 b2 => ⟨lg2, fun h2 m2 lh2 off2 => ?_⟩)⟩
    have S := S.call lg2 m2 lh2 off2
    obtain ⟨w2, rfl⟩ := bv_of b2.raw
    refine ⟨_, _, _, _, rfl, stb S.l (S_Mul_Big (b1.raw.le lg2) b2.raw (by omega) fun v3 g3 lg3 b3 => ⟨lg3, fun h3 m3 lh3 off3 => ?_⟩)⟩
    have S := S.call lg3 m3 lh3 off3
    obtain ⟨w3, rfl⟩ := bv_of b3.raw
    have bs3 := bs.le (Heap.le_trans lg1 (Heap.le_trans lg2 lg3))
    refine ⟨_, _, _, _, rfl, newB_cp (vs := bc w3) rfl fun r4 h4 hr4 lh4 A4 st4 => ⟨st4, _, A4.cell rfl, _, _, _, A4.cell rfl, ?_⟩⟩
    have S4 := S
    have S := S.grow lh4
    refine ⟨_, S.sA.cell rfl, _, _, _, S.sA.cell rfl, stb S.l (S_Div_Big (up := false) b3.raw bs3 (by omega) (by omega) hs0 fun v5 g5 lg5 b5 => ⟨lg5, fun h5 m5 lh5 off5 => ?_⟩)⟩
    have S := S.call lg5 m5 lh5 off5
    have A4 := A4.le lh5
    obtain ⟨w5, rfl⟩ := bv_of b5.raw
    have edv : dv (t * w) s false = t * w / s := rfl
    rw [edv] at b5
    refine ⟨_, _, _, _, rfl, newB_cp (vs := bc w5) rfl fun r6 h6 hr6 lh6 A6 st6 => ⟨st6, _, A6.cell rfl, _, _, _, A6.cell rfl, ?_⟩⟩
    have S6 := S
    have S := S.grow lh6
    have A4 := A4.le lh6
    refine stb S.l (S_Fit b5.raw (by omega) fun g7 lg7 => ⟨lg7, fun h7 m7 lh7 off7 => ?_⟩)
    have S := S.call lg7 m7 lh7 off7
    have A4 := A4.le lh7
    have A6 := A6.le lh7
    rw [fit_ok (show I64 (t * w / s) by unfold I64 at *; omega)]
    refine ⟨_, _, rfl, ?_⟩
    have ne4 : op ≠ some ⟨r4, 0, none⟩ := S4.oO.fresh hr4
    have ne6 : op ≠ some ⟨r6, 0, none⟩ := S6.oO.fresh hr6
    have nl4 : lp ≠ some ⟨r4, 0, none⟩ := S4.oL.fresh hr4
    have nl6 : lp ≠ some ⟨r6, 0, none⟩ := S6.oL.fresh hr6
    refine pushG (ws := [.int .i64 (t * w / s)]) S.oO (by decide) S.l (by omega) rfl rfl (by rw [intsV_length, l1]; simp) fun op' oc' h8 m8 w8 keep8 K8 => ?_
    obtain ⟨A4, ne4'⟩ := K8 _ _ A4 ne4
    obtain ⟨A6, ne6'⟩ := K8 _ _ A6 ne6
    obtain ⟨sA, so⟩ := K8 _ _ S.sA S.so
    obtain ⟨gA, no⟩ := K8 _ _ S.gA S.no
    obtain ⟨oL, d⟩ := keep8 _ _ _ _ S.oL S.d
    have S : R1 h0 g7 h8 sb gb sv gv op' lp oc' lc (BL ++ [t * w / s]) vs := ⟨S.l0, m8, sA, gA, S.gN, by rw [intsV_append]; exact w8, oL, d, no, S.nl, so, S.sl, S.gs⟩
    have b5 := b5.le lg7
    have b3 := (b3.le lg5).le lg7
    have bs := (bs3.le lg5).le lg7
    refine ⟨_, A4.cell rfl, _, _, _, A4.cell rfl, _, A6.cell rfl, _, _, _, A6.cell rfl, _, S.sA.cell rfl, _, _, _, S.sA.cell rfl, ?_⟩
    refine stb S.l (S_Mul_Big b5.raw bs (by omega) fun v9 g9 lg9 b9 => ⟨lg9, fun h9 m9 lh9 off9 => ?_⟩)
    have S := S.call lg9 m9 lh9 off9
    obtain ⟨w9, rfl⟩ := bv_of b9.raw
    refine ⟨_, _, _, _, rfl, .inl lh9, stb S.l (S_Turned b9.raw (by omega) fun v10 g10 lg10 b10 => ⟨lg10, fun h10 m10 lh10 off10 => ?_⟩)⟩
    have S := S.call lg10 m10 lh10 off10
    obtain ⟨w10, rfl⟩ := bv_of b10.raw
    refine ⟨_, _, _, _, rfl, .inl lh10, stb S.l (S_Add_Big ((b3.le lg9).le lg10).raw b10.raw (B := 1102) (by omega) (by omega) (by omega) fun v11 g11 lg11 b11 => ⟨lg11, fun h11 m11 lh11 off11 => ?_⟩)⟩
    have S := S.call lg11 m11 lh11 off11
    obtain ⟨w11, rfl⟩ := bv_of b11.raw
    rw [hdm] at b11
    have A6 := ((A6.le lh9).le lh10).le lh11
    refine ⟨_, _, _, _, rfl, ?_⟩
    refine pushG (ws := bc w11) S.oL (by decide) S.l (by omega) rfl rfl (by rw [ln_flat, bl.1, l2]; rfl) fun lp' lc' h12 m12 w12 keep12 K12 => ?_
    obtain ⟨A6, _⟩ := K12 _ _ A6 nl6
    obtain ⟨sA, sl⟩ := K12 _ _ S.sA S.sl
    obtain ⟨gA, nl⟩ := K12 _ _ S.gA S.nl
    obtain ⟨oO, d⟩ := keep12 _ _ _ _ S.oO S.d.symm
    have S : R1 h0 g11 h12 sb gb sv gv op' lp' oc' lc' (BL ++ [t * w / s]) (vs ++ [w11]) := ⟨S.l0, m12, sA, gA, S.gN, oO, by rw [List.flatMap_append, List.flatMap_singleton]; exact w12, d.symm, S.no, nl, S.so, sl, S.gs⟩
    have lgA : g7.le g11 := Heap.le_trans lg9 (Heap.le_trans lg10 lg11)
    have lgB : g.le g11 := Heap.le_trans lg1 (Heap.le_trans lg2 (Heap.le_trans lg3 (Heap.le_trans lg5 (Heap.le_trans lg7 lgA))))
    refine ⟨_, S.gA.cell rfl, _, _, _, S.gA.cell rfl, _, A6.cell rfl, _, _, _, A6.cell rfl, ?_⟩
    refine stb S.l (S_Add_Big (bg.le lgB) (b5.le lgA).raw (B := 1001 + j) (by omega) (by omega) (by omega) fun v13 g13 lg13 b13 => ⟨lg13, fun h13 m13 lh13 off13 => ?_⟩)
    have S := S.call lg13 m13 lh13 off13
    obtain ⟨w13, rfl⟩ := bv_of b13.raw
    refine ⟨_, _, _, _, rfl, S.gA.canSt (Nat.le_refl _), ?_⟩
    rw [wp1 (by omega)]
    have gA' : At (h13.setN gb 0 (bc w13)) gb (bc w13) := S.gA.set (o := 0)
    have S' : R1 h0 g13 (h13.setN gb 0 (bc w13)) sb gb sv w13 op' lp' oc' lc' (BL ++ [t * w / s]) (vs ++ [w11]) :=
      ⟨S.l0, le_setN S.l S.gN, S.sA.set_ne S.gs, gA', S.gN, S.oO.set_ne S.no, S.oL.set_ne S.nl, S.d, S.no, S.nl, S.so, S.sl, S.gs⟩
    have e14 : sumL [t * w / s] = t * w / s := by simp [sumL]
    rw [e14] at nx
    exact nx g13 _ w13 op' lp' oc' lc' (vs ++ [w11]) S' ((bs.le lgA).le lg13) (b13.raw.more (by omega)) ((((bl.le lgB).snoc (b11.raw.more (by omega)))).le lg13)
end
end Go.Proofs.Ytghdadniddoboaa

/- The reference's shares: walked, second half. -/
namespace Go.Proofs.Ytghdadniddoboaa
open Go Go.Sy Go.Value
set_option linter.unusedVariables false
set_option linter.unusedSimpArgs false

def boS (M : List Bool) : List Value := M.map Value.bool
theorem boS_len (M : List Bool) : (boS M).length = M.length := by simp [boS]
theorem boS_set {M : List Bool} {i : Nat} {v : Bool} (h : i < M.length) : setL (boS M) i [.bool v] = boS (M.set i v) := by
  rw [setL, setL, setT_eq, boS, boS, List.map_set]
theorem boS_get {h : Heap} {mb i : Nat} {M : List Bool} {b : Bool} (A : At h mb (boS M)) (e : M[i]? = some b) : h.cell mb i = some (.bool b) := A.cell (by rw [boS, List.getElem?_map, e]; rfl)
/-! who is next -/
theorem next_is {rs : List Int} {n m : Nat} (hm : m < n) {a : Int} (ha : 0 ≤ a ∧ a < (n : Int)) (h1 : a ∉ (ordL rs n).take m) (h2 : ∀ i : Int, 0 ≤ i → i < (n : Int) → i ∉ (ordL rs n).take m → i = a ∨ ltO rs a i = true) :
    (ordL rs n).take (m + 1) = (ordL rs n).take m ++ [a] := by
  have hs := ordL_sorted rs n
  have hl := ordL_len rs n
  have nd := ordL_nodup rs n
  have hmem : ∀ x, x ∈ ordL rs n ↔ 0 ≤ x ∧ x < (n : Int) := fun x => ordL_mem
  generalize ordL rs n = o at *
  have hx : o[m]? = some o[m] := List.getElem?_eq_getElem (by omega)
  rw [List.take_add_one, hx]
  congr 1
  have hdrop : o.drop m = o[m] :: o.drop (m + 1) := List.drop_eq_getElem_cons (by omega)
  have ho : o = o.take m ++ o[m] :: o.drop (m + 1) := by rw [← hdrop, List.take_append_drop]
  have hin : o[m] ∈ o := List.getElem_mem _
  have h0 := (hmem _).1 hin
  generalize hz : o[m] = z at *
  have nz : z ∉ o.take m := fun hc => by
    rw [ho, List.nodup_append] at nd
    exact nd.2.2 z hc z (List.mem_cons_self ..) rfl
  have : a = z := by
    rcases h2 z h0.1 h0.2 nz with e | e
    · exact e.symm
    · have hao := (hmem a).2 ha
      rw [ho] at hao
      rcases List.mem_append.1 hao with g | g
      · exact absurd g h1
      · rcases List.mem_cons.1 g with g | g
        · exact g
        · rw [ho, List.pairwise_append, List.pairwise_cons] at hs
          rw [hs.2.1.1 a g] at e
          cases e
  rw [this]; rfl
/-- the way of the second half -/
structure R2 (h0 g h : Heap) (gb ob mb : Nat) (gv : BV) (ol : List Int) (osp : List Value) (M : List Bool) : Prop where
  l0 : h0.le g
  l : g.le h
  gA : At h gb (bc gv)
  gN : g gb = none
  oA : At h ob (intsV .i64 ol ++ osp)
  oN : g ob = none
  mA : At h mb (boS M)
  mN : g mb = none
  n1 : ob ≠ gb
  n2 : mb ≠ gb
  n3 : mb ≠ ob
theorem R2.call {h0 g h g' h' : Heap} {gb ob mb : Nat} {gv : BV} {ol : List Int} {osp : List Value} {M : List Bool} (S : R2 h0 g h gb ob mb gv ol osp M) (lg : g.le g') (l1 : g'.le h') (lh : h.le h') (off : ∀ r o, h r = some o → g r = none → g' r = none) : R2 h0 g' h' gb ob mb gv ol osp M :=
  ⟨Heap.le_trans S.l0 lg, l1, S.gA.le lh, at_stb S.gA S.gN off, S.oA.le lh, at_stb S.oA S.oN off, S.mA.le lh, at_stb S.mA S.mN off, S.n1, S.n2, S.n3⟩
def MarkS (M : List Bool) (P : List Int) (n : Nat) : Prop := M.length = n ∧ ∀ i, i < n → M[i]? = some (decide ((i : Int) ∈ P))
theorem MarkS.set {M : List Bool} {P : List Int} {n a : Nat} (m : MarkS M P n) (ha : a < n) : MarkS (M.set a true) (P ++ [(a : Int)]) n := by
  refine ⟨by rw [List.length_set]; exact m.1, fun i hi => ?_⟩
  rw [List.getElem?_set]
  by_cases e : a = i
  · subst e
    rw [if_pos rfl, if_pos (by rw [m.1]; exact ha)]
    simp
  · rw [if_neg e, m.2 i hi]
    have : ((i : Int) ∈ P ++ [(a : Int)]) ↔ (i : Int) ∈ P := by
      rw [List.mem_append, List.mem_singleton]
      exact ⟨fun x => x.elim id fun x => by omega, .inl⟩
    rw [decide_eq_decide.2 this]
def Cand (rs : List Int) (P : List Int) (at' : Int) (i : Nat) : Prop :=
  (at' = -1 ∧ ∀ i' : Nat, i' < i → (i' : Int) ∈ P) ∨ ∃ a : Nat, at' = (a : Int) ∧ a < i ∧ (a : Int) ∉ P ∧ ∀ i' : Nat, i' < i → (i' : Int) ∉ P → i' = a ∨ ltO rs (a : Int) (i' : Int) = true
theorem cmpI_lt' {x y : Int} : (decide (cmpI x y < 0) = true) ↔ x < y := by
  unfold cmpI; rw [decide_eq_true_eq]; split <;> (try split) <;> omega
theorem cmpI_gt' {x y : Int} : (decide (cmpI x y > 0) = true) ↔ x > y := by
  unfold cmpI; rw [decide_eq_true_eq]; split <;> (try split) <;> omega
section
variable {h0 : Heap} {K : Value → Heap → Prop}
theorem rsh_3 {t : Int} {q lp : Option Addr} {n c oc lc gb ob mb : Nat} {rs ol P : List Int} {vs : List BV} {osp : List Value} {M : List Bool} {gv : BV} {x : Int} {bd : Nat} (hn : n ≤ 64) (hvs : vs.length = n) (hol : ol.length = n) (hg : geL ol) (hsum : sumL ol + 1 ≤ 9223372036854775807) (hbd : 5 ≤ bd ∧ bd ≤ 100000)
    (hM : MarkS M P n) (hex : ∃ i : Nat, i < n ∧ (i : Int) ∉ P)
    (k : ∀ g h gv' (a : Nat), a < n → (a : Int) ∉ P → (∀ i : Nat, i < n → (i : Int) ∉ P → i = a ∨ ltO rs (a : Int) (i : Int) = true) → R2 h0 g h gb ob mb gv' (bump1 ol (a : Int)) osp (M.set a true) → Arr bc g lp vs → Bgs g vs rs → BigR g (bv gv') (x + 1) (bd + 1) →
      L_ref02_Shares_2 t q n c (some ⟨ob, 0, none⟩) n oc lp n lc gb (some ⟨mb, 0, none⟩) n n h K) :
    ∀ (m i : Nat) (g h : Heap) (at' : Int), m + i = n → R2 h0 g h gb ob mb gv ol osp M → Arr bc g lp vs → Bgs g vs rs → BigR g (bv gv) x bd → Cand rs P at' i →
    L_ref02_Shares_3 t q n c (some ⟨ob, 0, none⟩) n oc lp n lc gb (some ⟨mb, 0, none⟩) n n at' (i : Int) h K := by
  intro m
  induction m with
  | zero =>
    intro i g h at' hi S bl bL bg C
    refine L_ref02_Shares_3r _ _ _ _ _ _ _ _ _ _ _ _ _ _ _ _ _ _ ?_
    unfold L_ref02_Shares_3T
    have hin : i = n := by omega
    subst hin
    rcases C with ⟨_, C⟩ | ⟨a, rfl, ha, hap, C⟩
    · obtain ⟨i', h1, h2⟩ := hex
      exact absurd (C i' h1) h2
    have hm0 : a < M.length := by rw [hM.1]; exact ha
    have z : ∀ y : Nat, 0 + ((y : Nat) : Int).toNat = y := fun y => by rw [Int.toNat_natCast, Nat.zero_add]
    refine Br.no (by simp) ⟨by omega, by omega, withAddr_intro rfl ⟨by rw [z]; exact S.mA.canSt (by rw [boS_len]; omega), by omega, by omega, ?_⟩⟩
    rw [z]
    have mA := S.mA.set (o := a) (ws := [.bool true])
    rw [boS_set hm0] at mA
    have oA := S.oA.set_ne (o := a) (ws := [.bool true]) (b' := mb) (Ne.symm S.n3)
    have gA := S.gA.set_ne (o := a) (ws := [.bool true]) (b' := mb) (Ne.symm S.n2)
    have l1 : g.le (h.setN mb a [.bool true]) := le_setN S.l S.mN
    generalize h.setN mb a [.bool true] = h1 at *
    have hg2 : ol[a]? = some (ol.getD a 0) := by rw [List.getD_eq_getElem?_getD, List.getElem?_eq_getElem (by omega)]; rfl
    have hb : 0 ≤ ol.getD a 0 ∧ ol.getD a 0 ≤ sumL ol := ⟨hg _ (List.mem_of_getElem? hg2), (sum_ge hg).2 _ (List.mem_of_getElem? hg2)⟩
    have c1 : h1.cell ob a = some (.int .i64 (ol.getD a 0)) := oA.cell (by
      rw [List.getElem?_append_left (by rw [intsV_length]; omega), intsV_map, List.getElem?_map, hg2]; rfl)
    refine withAddr_intro rfl ⟨_, by rw [z]; exact c1, by omega, by omega, withAddr_intro rfl ⟨by rw [z]; exact oA.canSt (by rw [List.length_append, intsV_length]; omega), ?_⟩⟩
    rw [z, wrap_i64_id (n := ol.getD a 0 + 1) (by omega) (by omega)]
    have oA2 := oA.set (o := a) (ws := [.int .i64 (ol.getD a 0 + 1)])
    rw [setL_i1 (by omega)] at oA2
    have mA2 := mA.set_ne (o := a) (ws := [.int .i64 (ol.getD a 0 + 1)]) S.n3
    have gA2 := gA.set_ne (o := a) (ws := [.int .i64 (ol.getD a 0 + 1)]) (Ne.symm S.n1)
    have l2 : g.le (h1.setN ob a [.int .i64 (ol.getD a 0 + 1)]) := le_setN l1 S.oN
    generalize h1.setN ob a [.int .i64 (ol.getD a 0 + 1)] = h2 at *
    have S : R2 h0 g h2 gb ob mb gv (bump1 ol (a : Int)) osp (M.set a true) := ⟨S.l0, l2, gA2, S.gN, oA2, S.oN, mA2, S.mN, S.n1, S.n2, S.n3⟩
    refine ⟨_, S.gA.cell rfl, _, _, _, S.gA.cell rfl, stb S.l (S_Of (by unfold I64; omega) fun v3 g3 lg3 b3 => ⟨lg3, fun h3 m3 lh3 off3 => ?_⟩)⟩
    have S := S.call lg3 m3 lh3 off3
    obtain ⟨w3, rfl⟩ := bv_of b3.raw
    refine ⟨_, _, _, _, rfl, .inl lh3, stb S.l (S_Add_Big (bg.le lg3) b3.raw (B := bd) (by omega) (by omega) (by omega) fun v4 g4 lg4 b4 => ⟨lg4, fun h4 m4 lh4 off4 => ?_⟩)⟩
    have S := S.call lg4 m4 lh4 off4
    obtain ⟨w4, rfl⟩ := bv_of b4.raw
    refine ⟨_, _, _, _, rfl, S.gA.canSt (Nat.le_refl _), ?_⟩
    have gA' : At (h4.setN gb 0 (bc w4)) gb (bc w4) := S.gA.set (o := 0)
    have lg := Heap.le_trans lg3 lg4
    exact k g4 _ w4 a ha hap C ⟨S.l0, le_setN S.l S.gN, gA', S.gN, S.oA.set_ne S.n1, S.oN, S.mA.set_ne S.n2, S.mN, S.n1, S.n2, S.n3⟩ (bl.le lg) (bL.le lg) b4.raw
  | succ m ih =>
    intro i g h at' hi S bl bL bg C
    refine L_ref02_Shares_3r _ _ _ _ _ _ _ _ _ _ _ _ _ _ _ _ _ _ ?_
    unfold L_ref02_Shares_3T
    have z : ∀ y : Nat, 0 + ((y : Nat) : Int).toNat = y := fun y => by rw [Int.toNat_natCast, Nat.zero_add]
    rw [wp1 (by omega)]
    refine Br.yes (by simp; omega) ⟨by omega, by omega, withAddr_intro rfl ⟨_, by rw [z]; exact boS_get S.mA (hM.2 i (by omega)), ?_⟩⟩
    by_cases hp : (i : Int) ∈ P
    · rw [decide_eq_true hp]
      refine Br.no rfl (ih (i + 1) g h at' (by omega) S bl bL bg ?_)
      rcases C with ⟨e, C⟩ | ⟨a, e, ha, hap, C⟩
      · exact .inl ⟨e, fun i' h' => by
          by_cases e2 : i' = i
          · rw [e2]; exact hp
          · exact C i' (by omega)⟩
      · exact .inr ⟨a, e, by omega, hap, fun i' h' hn => by
          by_cases e2 : i' = i
          · rw [e2] at hn; exact absurd hp hn
          · exact C i' (by omega) hn⟩
    rw [decide_eq_false hp]
    refine Br.yes rfl ?_
    rcases C with ⟨rfl, C⟩ | ⟨a, rfl, ha, hap, C⟩
    · exact Br.yes (by decide) (ih (i + 1) g h _ (by omega) S bl bL bg (.inr ⟨i, rfl, by omega, hp, fun i' h' hn => by
        by_cases e2 : i' = i
        · exact .inl e2
        · exact absurd (C i' (by omega)) hn⟩))
    have xi : vs[i]? = some vs[i] := List.getElem?_eq_getElem (by omega)
    have xa : vs[a]? = some vs[a] := List.getElem?_eq_getElem (by omega)
    have Bi := bL.2 i _ xi
    have Ba := bL.2 a _ xa
    refine Br.no (by simp) (ax bc_len (bl.le S.l) hvs rfl xi (by decide) fun b o _ r => ⟨_, by have := r 0 (by decide); exact this, _, _, _, by have := r 1 (by decide); exact this, ax bc_len (bl.le S.l) hvs rfl xa (by decide) fun b2 o2 _ r2 => ⟨_, by have := r2 0 (by decide); exact this, _, _, _, by have := r2 1 (by decide); exact this, ?_⟩⟩)
    refine stb S.l (S_Cmp Bi Ba (by omega) (by omega) fun g1 lg1 => ⟨lg1, fun h1 m1 lh1 off1 => ⟨_, rfl, ?_⟩⟩)
    have S := S.call lg1 m1 lh1 off1
    have rd : ∀ y : Nat, rs.getD ((y : Nat) : Int).toNat 0 = rs.getD y 0 := fun y => by rw [Int.toNat_natCast]
    refine Br.intro (fun g2 => ?_) fun g2 => ?_
    · rw [cmpI_gt'] at g2
      refine ih (i + 1) g1 h1 _ (by omega) S (bl.le lg1) (bL.le lg1) (bg.le lg1) (.inr ⟨i, rfl, by omega, hp, fun i' h' hn => ?_⟩)
      by_cases e2 : i' = i
      · exact .inl e2
      · right
        rcases C i' (by omega) hn with e3 | e3
        · rw [e3, ltO_iff, rd, rd]; left; omega
        · rw [ltO_iff, rd, rd] at e3 ⊢; omega
    · rw [← Bool.not_eq_true, cmpI_gt'] at g2
      refine ih (i + 1) g1 h1 _ (by omega) S (bl.le lg1) (bL.le lg1) (bg.le lg1) (.inr ⟨a, rfl, by omega, hap, fun i' h' hn => ?_⟩)
      by_cases e2 : i' = i
      · right
        rw [e2, ltO_iff, rd, rd]; omega
      · exact C i' (by omega) hn
theorem rsh_2 {t : Int} {q lp : Option Addr} {n c oc lc gb ob mb : Nat} {rs bs : List Int} {vs : List BV} {osp : List Value} (hn : n ≤ 64) (ht : I64 t) (hvs : vs.length = n) (hbs : bs.length = n) (hg : geL bs) {mis : Nat} (hmis : mis < n) (hx : sumL bs + (mis : Int) = t)
    (k : ∀ h', h0.le h' → At h' ob (intsV .i64 (bump bs ((ordL rs n).take mis)) ++ osp) → K (tuple #[slice (some ⟨ob, 0, none⟩) n oc, .int .i64 0]) h') :
    ∀ (d m : Nat) (g h : Heap) (gv : BV) (M : List Bool), d + m = mis → R2 h0 g h gb ob mb gv (bump bs ((ordL rs n).take m)) osp M → Arr bc g lp vs → Bgs g vs rs → BigR g (bv gv) (sumL bs + (m : Int)) (2000 + m) → MarkS M ((ordL rs n).take m) n →
    L_ref02_Shares_2 t q n c (some ⟨ob, 0, none⟩) n oc lp n lc gb (some ⟨mb, 0, none⟩) n n h K := by
  intro d
  induction d with
  | zero =>
    intro m g h gv M hd S bl bL bg hM
    refine L_ref02_Shares_2r _ _ _ _ _ _ _ _ _ _ _ _ _ _ _ _ ?_
    unfold L_ref02_Shares_2T
    have hmm : m = mis := by omega
    subst hmm
    refine ⟨_, S.gA.cell rfl, _, _, _, S.gA.cell rfl, stb S.l (S_Of ht fun v1 g1 lg1 b1 => ⟨lg1, fun h1 m1 lh1 off1 => ?_⟩)⟩
    have S := S.call lg1 m1 lh1 off1
    obtain ⟨w1, rfl⟩ := bv_of b1.raw
    refine ⟨_, _, _, _, rfl, .inl lh1, stb S.l (S_Cmp (bg.le lg1) b1.raw (by omega) (by omega) fun g2 lg2 => ⟨lg2, fun h2 m2 lh2 off2 => ⟨_, rfl, ?_⟩⟩)⟩
    have S := S.call lg2 m2 lh2 off2
    exact Br.no (by rw [← Bool.not_eq_true, cmpI_lt']; omega) (Ret.mk (k h2 (Heap.le_trans S.l0 S.l) S.oA))
  | succ d ih =>
    intro m g h gv M hd S bl bL bg hM
    refine L_ref02_Shares_2r _ _ _ _ _ _ _ _ _ _ _ _ _ _ _ _ ?_
    unfold L_ref02_Shares_2T
    refine ⟨_, S.gA.cell rfl, _, _, _, S.gA.cell rfl, stb S.l (S_Of ht fun v1 g1 lg1 b1 => ⟨lg1, fun h1 m1 lh1 off1 => ?_⟩)⟩
    have S := S.call lg1 m1 lh1 off1
    obtain ⟨w1, rfl⟩ := bv_of b1.raw
    refine ⟨_, _, _, _, rfl, .inl lh1, stb S.l (S_Cmp (bg.le lg1) b1.raw (by omega) (by omega) fun g2 lg2 => ⟨lg2, fun h2 m2 lh2 off2 => ⟨_, rfl, ?_⟩⟩)⟩
    have S := S.call lg2 m2 lh2 off2
    have lg := Heap.le_trans lg1 lg2
    refine Br.yes (by rw [cmpI_lt']; omega) ?_
    have hin : ∀ x ∈ (ordL rs n).take m, 0 ≤ x ∧ x < (bs.length : Int) := fun x hx => by rw [hbs]; exact ordL_mem.1 (List.mem_of_mem_take hx)
    have hsm := bump_sum ((ordL rs n).take m) bs hin
    have hlt : ((ordL rs n).take m).length = m := by rw [List.length_take, ordL_len]; omega
    have hex : ∃ i : Nat, i < n ∧ (i : Int) ∉ (ordL rs n).take m := by
      have ho : (ordL rs n)[m]'(by rw [ordL_len]; omega) ∈ ordL rs n := List.getElem_mem _
      have hr := ordL_mem.1 ho
      refine ⟨((ordL rs n)[m]'(by rw [ordL_len]; omega)).toNat, by omega, ?_⟩
      rw [Int.toNat_of_nonneg hr.1]
      intro hc
      obtain ⟨j, hj, e⟩ := List.mem_take_iff_getElem.1 hc
      have := List.pairwise_iff_getElem.1 (ordL_nodup rs n) j m (by omega) (by rw [ordL_len]; omega) (by omega)
      exact this e
    unfold I64 at ht
    refine rsh_3 (x := sumL bs + (m : Int)) (bd := 2000 + m) hn hvs (by rw [bump_len, hbs]) (bump_ge _ _ hg) (by rw [hsm, hlt]; omega) (by omega) hM hex (fun g3 h3 gv3 a ha hap hmin S3 bl3 bL3 bg3 => ?_) n 0 g2 h2 (-1) (by omega) S (bl.le lg) (bL.le lg) (bg.le lg) (.inl ⟨rfl, fun i' h' => by omega⟩)
    have nx := next_is (rs := rs) (n := n) (m := m) (by omega) (a := (a : Int)) (by omega) hap fun i hi0 hi1 hi => by
      rcases hmin i.toNat (by omega) (by rw [Int.toNat_of_nonneg hi0]; exact hi) with e | e
      · left; omega
      · right; rw [Int.toNat_of_nonneg hi0] at e; exact e
    refine ih (m + 1) g3 h3 gv3 _ (by omega) ?_ bl3 bL3 ?_ (by rw [nx]; exact hM.set ha)
    · rw [nx, bump, List.foldl_append]; exact S3
    · have e : sumL bs + ((m + 1 : Nat) : Int) = sumL bs + (m : Int) + 1 := by omega
      rw [e]; exact bg3
end
end Go.Proofs.Ytghdadniddoboaa

/- The reference's shares, evenly, and rooms filled. -/
namespace Go.Proofs.Ytghdadniddoboaa
open Go Go.Sy Go.Value
set_option linter.unusedVariables false
set_option linter.unusedSimpArgs false

theorem anyNeg_snoc (l : List Int) (x : Int) : anyNeg (l ++ [x]) = (anyNeg l || decide (x < 0)) := by simp [anyNeg]
theorem anyPos_snoc (l : List Int) (x : Int) : anyPos (l ++ [x]) = (anyPos l || decide (x > 0)) := by simp [anyPos]
theorem rep_boS : ∀ n : Nat, repL n [Value.bool false] = boS (List.replicate n false)
  | 0 => rfl
  | n + 1 => by rw [List.replicate_succ]; exact congrArg (Value.bool false :: ·) (rep_boS n)
theorem own_no {h0 h : Heap} {z : List Value} {p : Option Addr} {c b : Nat} {vs : List Value} (x : OwnL h0 h z p c vs) (e : p ≠ some ⟨b, 0, none⟩) : ∀ o, p ≠ some ⟨b, o, none⟩ := fun o e2 => by
  rcases x with ⟨_, q, _⟩ | ⟨r, sp, q, _, _, _⟩
  · rw [q] at e2; cases e2
  · rw [q] at e2 e
    injection e2 with e3
    injection e3 with e4 e5
    exact e (by rw [e4])
section
variable {h : Heap} {K : Value → Heap → Prop}
/-- behind the first look -/
theorem rsh_go {q : Option Addr} {ws : List Int} {n c : Nat} {t : Int} (I : Ints .i64 h q ws) (hn : ws.length = n) (hn2 : n ≤ 64) (hI : allI64 ws) (ht : I64 t) (ht0 : 0 ≤ t) (hneg : anyNeg ws = false) (hpos : anyPos ws = true)
    (k : ∀ p' c' h', h.le h' → Ints .i64 h' p' (sharesR t ws).1 → K (tuple #[slice p' (sharesR t ws).1.length c', .int .i64 (sharesR t ws).2]) h') :
    CallA Try.prog fn_ref01_Total [slice q n c] h fun (v : Value) (h : Heap) => ∃ (b : Bool), ∃ (a : Option Addr), ∃ (n' : Nat), ∃ (m : Nat), v = agg #[Value.bool b, slice a n' m] ∧
      newB h [Value.bool false, slice none 0 0] 102 fun (r : Nat) (h : Heap) => h.canSt r 0 2 ∧ ∃ (b_1 : Bool), Heap.cell (h.setN r 0 [Value.bool b, slice a n' m]) r 0 = some (Value.bool b_1) ∧
        ∃ (a_1 : Option Addr), ∃ (n_1 : Nat), ∃ (m_1 : Nat), Heap.cell (h.setN r 0 [Value.bool b, slice a n' m]) r 1 = some (slice a_1 n_1 m_1) ∧
          CallA Try.prog fn_ref01_Fit [agg #[Value.bool b_1, slice a_1 n_1 m_1]] (h.setN r 0 [Value.bool b, slice a n' m]) fun (v : Value) (h : Heap) => ∃ (n_3 : Int), ∃ (n_2 : Int), v = tuple #[.int .i64 n_3, .int .i64 n_2] ∧
            Br (n_2 != 0) (Ret h K (tuple #[slice none 0 0, .int .i64 n_2]))
              (newB h [] 2 fun (r_1 : Nat) (h : Heap) => newB h [] 102 fun (r_2 : Nat) (h : Heap) => newB h [Value.bool false, slice none 0 0] 102 fun (r_3 : Nat) (h : Heap) => h.canSt r_3 0 2 ∧
                L_ref02_Shares_1 t q n c r (some { block := r_1, off := 0 }) 0 0 (some { block := r_2, off := 0 }) 0 0 r_3 0 (h.setN r_3 0 [Value.bool false, slice none 0 0]) K) := by
  have e : sharesR t ws = if (fit (sumL ws)).2 ≠ 0 then ([], (fit (sumL ws)).2) else (sharesL t ws, 0) := by
    unfold sharesR
    rw [if_neg (by omega), if_neg (by omega), if_neg (by rw [hneg]; decide), if_neg (by rw [hpos]; decide)]
  have hp := pos_of hneg hpos
  subst hn
  refine S_TotalB (Bd := 100) (by omega) (by omega) hI I fun v1 h1 l1 b1 => ?_
  obtain ⟨w1, rfl⟩ := bv_of b1
  refine ⟨_, _, _, _, rfl, newB_cp (vs := bc w1) rfl fun r2 h2 hr2 l2 A2 st2 => ⟨st2, _, A2.cell rfl, _, _, _, A2.cell rfl, ?_⟩⟩
  have l02 := Heap.le_trans l1 l2
  refine S_Fit (b1.le l2) (by omega) fun h3 l3 => ⟨_, _, rfl, Br.intro (fun g => ?_) fun g => ?_⟩
  · rw [if_pos (by simpa using g)] at e
    rw [e] at k
    exact Ret.mk (k none 0 h3 (Heap.le_trans l02 l3) (.inl rfl))
  have hfit : I64 (sumL ws) := Classical.byContradiction fun x => by rw [fit_over x] at g; cases g
  rw [if_neg (by rw [fit_ok hfit]; simp)] at e
  rw [e] at k
  dsimp only at k
  rw [sharesL_len] at k
  have l03 := Heap.le_trans l02 l3
  intro r4 e4
  have o4 := own_new (T := 2) (z := [.int .i64 0]) e4
  have l4 := @le_ins h3 r4 (.cells [].toArray 2 (0, 0)) e4
  have a4 := At.new h3 r4 [] 2
  generalize h3.ins r4 _ = h4 at *
  intro r5 e5
  have hr5 : h3 r5 = none := none_of_le l4 e5
  have o5 : OwnL h3 (h4.ins r5 (.cells [].toArray 102 (0, 0))) [.bool false, slice none 0 0] (some ⟨r5, 0, none⟩) 0 [] := .inr ⟨r5, [], rfl, hr5, At.new h4 r5 [] 102, by simp⟩
  have a5 := At.new h4 r5 [] 102
  have l5 := @le_ins h4 r5 (.cells [].toArray 102 (0, 0)) e5
  have n45 := a4.ne e5
  generalize h4.ins r5 _ = h5 at *
  refine newB_cp (vs := bc (false, none, 0, 0)) rfl fun r6 h6 hr6 l6 A6 st6 => ⟨st6, ?_⟩
  have l56 := Heap.le_trans l5 l6
  have l36 := Heap.le_trans l4 l56
  have n46 := (a4.le l5).ne hr6
  have n56 := a5.ne hr6
  have S : R1 h h3 (h6.setN r6 0 (bc (false, none, 0, 0))) r2 r6 w1 (false, none, 0, 0) (some ⟨r4, 0, none⟩) (some ⟨r5, 0, none⟩) 0 0 (baseL t (sumL ws) (ws.take 0)) [] := by
    have hne : ∀ {a b : Nat}, a ≠ b → (some ⟨a, 0, none⟩ : Option Addr) ≠ some ⟨b, 0, none⟩ := fun n e => n (by injection e with e; injection e)
    have A2' := A2.le l3
    refine ⟨l03, l36, A2'.le l36, A6, none_of_le (Heap.le_trans l4 l5) hr6, ?_, ?_, fun B e1 e2 => hne n45 (e1.trans e2.symm), hne n46, hne n56, ?_, ?_, ?_⟩
    · exact o4.le l56
    · exact o5.le l6
    · exact hne (Ne.symm (A2'.ne e4))
    · exact hne (Ne.symm ((A2'.le l4).ne e5))
    · exact ((A2'.le l4).le l5).ne hr6
  have zero : BigR h3 (bv (false, none, 0, 0)) (sumL (baseL t (sumL ws) (ws.take 0))) (1001 + 0) := ⟨false, none, 0, [], rfl, .inl rfl, (fun d hd => by cases hd), by simp [sg, dig, sumL, baseL], by simp, by simp⟩
  refine rshares_1 (s := sumL ws) I rfl hn2 hI ht ht0 (geL_of hneg) rfl hp.1 (fun g h' gv op lp oc lc vs S' bs bg bl => ?_) ws.length 0 h3 _ (false, none, 0, 0) _ _ 0 0 [] (by omega) S ((b1.le l2).le l3) zero ⟨rfl, fun i v e => by simp at e⟩
  -- the second half
  have hm := missing_range (t := t) hp.1 hp.2
  have hlen := baseL_len t (sumL ws) ws
  obtain ⟨ob, osp, rfl, oN, oA, hoc⟩ := own_ap S'.oO (by intro e; apply hp.2; have := congrArg List.length e; rw [baseL_len] at this; exact List.length_eq_zero_iff.1 this)
  intro r7 e7
  have A7 := At.new h' r7 (repL ws.length [.bool false]) 4
  have l7 := @le_ins h' r7 (.cells (repL ws.length [.bool false]).toArray 4 (0, 0)) e7
  generalize h'.ins r7 _ = h7 at *
  rw [rep_boS] at A7
  have nob : ob ≠ r6 := fun e => S'.no (by rw [e])
  have lg2 : g.le ((h'.del r6).del ob) := le_del (le_del S'.l S'.gN) oN
  have lh2 : ((h'.del r6).del ob).le h' := Heap.le_trans (del_le _ _) (del_le _ _)
  have lA : Arr bc ((h'.del r6).del ob) lp vs := rd_del (rd_del S'.oL.rd (own_no S'.oL S'.nl)) (own_no S'.oL fun e => S'.d ob rfl e)
  have R : R2 h ((h'.del r6).del ob) h7 r6 ob r7 gv (bump (baseL t (sumL ws) ws) ((ordL (restL t (sumL ws) ws) ws.length).take 0)) osp (List.replicate ws.length false) := by
    refine ⟨Heap.le_trans S'.l0 lg2, Heap.le_trans lh2 l7, S'.gA.le l7, ?_, oA.le l7, del_same _ _, A7, ?_, nob, ?_, ?_⟩
    · unfold Heap.del; rw [if_neg (Ne.symm nob), if_pos rfl]
    · exact none_of_le lh2 e7
    · exact Ne.symm (S'.gA.ne e7)
    · exact Ne.symm (oA.ne e7)
  refine rsh_2 (rs := restL t (sumL ws) ws) (bs := baseL t (sumL ws) ws) hn2 ht (by rw [bl.1, restL_len]) hlen (base_ge ht0 hp.1 (geL_of hneg)) (mis := (t - sumL (baseL t (sumL ws) ws)).toNat) (by omega) (by omega) (fun h8 l8 A8 => ?_) _ 0 _ h7 gv _ (Nat.add_zero _) R lA (bl.le lg2) ?_ ⟨by simp, fun i hi => ?_⟩
  · exact k (some ⟨ob, 0, none⟩) oc h8 l8 A8.toRd
  · have := bg.le lg2
    simpa using this
  · rw [List.getElem?_replicate, if_pos hi]; simp
theorem rsh_0 {q : Option Addr} {ws : List Int} {n c : Nat} {t : Int} (I : Ints .i64 h q ws) (hn : ws.length = n) (hn2 : n ≤ 64) (hI : allI64 ws) (ht : I64 t)
    (k : ∀ p' c' h', h.le h' → Ints .i64 h' p' (sharesR t ws).1 → K (tuple #[slice p' (sharesR t ws).1.length c', .int .i64 (sharesR t ws).2]) h') :
    ∀ (m j : Nat), m + j = n → anyNeg (ws.take j) = false → L_ref02_Shares_0 t q n c (anyPos (ws.take j)) (j : Int) h K := by
  intro m
  induction m with
  | zero =>
    intro j hj hneg
    refine L_ref02_Shares_0r _ _ _ _ _ _ _ _ ?_
    unfold L_ref02_Shares_0T
    rw [List.take_of_length_le (by omega)] at hneg ⊢
    refine Br.no (by simp; omega) (Br.dec (fun g => ?_) fun g => Br.intro (fun g2 => ?_) fun g2 => ?_)
    · have e : sharesR t ws = ([], 1) := by unfold sharesR; rw [if_neg (by omega), if_pos g]
      rw [e] at k; exact Ret.mk (k none 0 h h.le_refl (.inl rfl))
    · have e : sharesR t ws = ([], 1) := by unfold sharesR; rw [if_neg (by omega), if_neg g, if_neg (by rw [hneg]; decide), if_pos (by simpa using g2)]
      rw [e] at k; exact Ret.mk (k none 0 h h.le_refl (.inl rfl))
    · exact rsh_go I hn hn2 hI ht (by omega) hneg (by simpa using g2) k
  | succ m ih =>
    intro j hj hneg
    refine L_ref02_Shares_0r _ _ _ _ _ _ _ _ ?_
    unfold L_ref02_Shares_0T
    have hx : ws[j]? = some ws[j] := List.getElem?_eq_getElem (by omega)
    have hmem : ws[j] ∈ ws := List.getElem_mem _
    have e1 : ws.take (j + 1) = ws.take j ++ [ws[j]] := by rw [List.take_add_one, hx]; rfl
    have nx := ih (j + 1) (by omega)
    rw [e1, anyNeg_snoc, anyPos_snoc, hneg, Bool.false_or] at nx
    rw [wp1 (by omega)]
    generalize ws[j] = w at *
    refine Br.yes (by simp; omega) (ix I hn rfl hx (Br.dec (fun g => ?_) fun g => ?_))
    · have ha : anyNeg ws = true := by
        unfold anyNeg; rw [List.any_eq_true]; exact ⟨w, hmem, decide_eq_true g⟩
      have e : sharesR t ws = ([], 1) := by
        unfold sharesR
        rw [if_neg (by omega)]
        split
        · rfl
        · first | rfl | rw [if_pos ha]
      rw [e] at k; exact Ret.mk (k none 0 h h.le_refl (.inl rfl))
    · have nx := nx (decide_eq_false g)
      refine Br.intro (fun g2 => ?_) fun g2 => ix I hn rfl hx ?_
      · rw [g2, Bool.true_or] at nx; exact nx
      · rw [g2, Bool.false_or] at nx; exact nx
theorem S_RShares {q : Option Addr} {ws : List Int} {n c : Nat} {t : Int} (I : Ints .i64 h q ws) (hn : ws.length = n) (hI : allI64 ws) (ht : I64 t)
    (k : ∀ p' c' h', h.le h' → Ints .i64 h' p' (sharesR t ws).1 → K (tuple #[slice p' (sharesR t ws).1.length c', .int .i64 (sharesR t ws).2]) h') :
    CallA Try.prog fn_ref02_Shares [.int .i64 t, slice q n c] h K := by
  refine F_ref02_Shares _ _ _ _ _ _ ?_
  unfold F_ref02_SharesT
  refine Br.dec (fun g => ?_) fun g => rsh_0 I hn (by omega) hI ht k n 0 (by omega) rfl
  have e : sharesR t ws = ([], 4) := by unfold sharesR; rw [if_pos (by omega)]
  rw [e] at k; exact Ret.mk (k none 0 h h.le_refl (.inl rfl))
/-! evenly -/
theorem reven_0 {h0 : Heap} {t : Int} {n : Nat} (hn : n ≤ 64) (ht : I64 t)
    (k : ∀ p' c' h', h0.le h' → Ints .i64 h' p' (sharesR t (ones n)).1 → K (tuple #[slice p' (sharesR t (ones n)).1.length c', .int .i64 (sharesR t (ones n)).2]) h') :
    ∀ (m j : Nat) (h : Heap) (p : Option Addr) (c : Nat), m + j = n → h0.le h → OwnL h0 h [.int .i64 0] p c (intsV .i64 (ones j)) → L_ref02_Even_0 t (n : Int) p j c (j : Int) h K := by
  intro m
  induction m with
  | zero =>
    intro j h p c hj l0 own
    refine L_ref02_Even_0r _ _ _ _ _ _ _ _ ?_
    unfold L_ref02_Even_0T
    have hjn : j = n := by omega
    subst hjn
    refine Br.no (by simp) (S_RShares own.rd (by simp [ones]) (fun x hx => by rw [List.eq_of_mem_replicate hx]; unfold I64; omega) ht fun p' c' h' l' I' => ⟨_, _, _, _, rfl, Ret.mk (k p' c' h' (Heap.le_trans l0 l') I')⟩)
  | succ m ih =>
    intro j h p c hj l0 own
    refine L_ref02_Even_0r _ _ _ _ _ _ _ _ ?_
    unfold L_ref02_Even_0T
    rw [wp1 (by omega)]
    refine Br.yes (by simp; omega) (pushG (ws := [.int .i64 1]) own (by decide) l0 (by omega) rfl rfl (by rw [intsV_length]; simp [ones]) fun p' c' h' l' w' _ _ => ?_)
    have e : intsV .i64 (ones j) ++ [Value.int .i64 1] = intsV .i64 (ones (j + 1)) := by
      have : ones (j + 1) = ones j ++ [1] := by unfold ones; rw [List.replicate_succ']
      rw [this, intsV_append]; rfl
    rw [e] at w'
    exact ih (j + 1) h' p' c' (by omega) l' w'
theorem S_REven {t p : Int} (ht : I64 t)
    (k : ∀ p' c' h', h.le h' → Ints .i64 h' p' (evenR t p).1 → K (tuple #[slice p' (evenR t p).1.length c', .int .i64 (evenR t p).2]) h') :
    CallA Try.prog fn_ref02_Even [.int .i64 t, .int .i64 p] h K := by
  refine F_ref02_Even _ _ _ _ ?_
  unfold F_ref02_EvenT
  unfold evenR at k
  refine Br.dec (fun g1 => ?_) fun g1 => ?_
  · rw [if_pos g1] at k; exact Ret.mk (k none 0 h h.le_refl (.inl rfl))
  rw [if_neg g1] at k
  refine Br.dec (fun g2 => ?_) fun g2 => ?_
  · rw [if_pos g2] at k; exact Ret.mk (k none 0 h h.le_refl (.inl rfl))
  rw [if_neg g2] at k
  refine Br.dec (fun g3 => ?_) fun g3 => ?_
  · rw [if_pos g3] at k; exact Ret.mk (k none 0 h h.le_refl (.inl rfl))
  rw [if_neg g3] at k
  obtain ⟨m, rfl⟩ : ∃ m : Nat, p = (m : Int) := ⟨p.toNat, by omega⟩
  rw [Int.toNat_natCast] at k
  intro r hr
  exact reven_0 (by omega) ht k m 0 _ _ 0 (by omega) (le_ins hr) (own_new hr)
/-! rooms -/
theorem rfill_1 {h0 : Heap} {q : Option Addr} {rooms : List Int} {n c : Nat} (I : Ints .i64 h0 q rooms) (hn : rooms.length = n) (hs : n ≤ 64) (hr : ∀ r ∈ rooms, I64 r ∧ 0 ≤ r) {res : List Int × Int}
    (k : ∀ p' c' h', h0.le h' → OwnL h0 h' [.int .i64 0] p' c' (intsV .i64 res.1) → K (tuple #[slice p' n c', .int .i64 res.2, .int .i64 0]) h') :
    ∀ (m j : Nat) (h : Heap) (t : Int) (out : Option Addr) (oc : Nat) (done : List Int), m + j = n → h0.le h → I64 t → 0 ≤ t → OwnL h0 h [.int .i64 0] out oc (intsV .i64 done) → done.length = j → done ++ (fillS (rooms.drop j) t).1 = res.1 → (fillS (rooms.drop j) t).2 = res.2 →
    L_ref02_Fill_1 t q n c out j oc (j : Int) h K := by
  intro m
  induction m with
  | zero =>
    intro j h t out oc done hj l0 ht h0t own hd e1 e2
    refine L_ref02_Fill_1r _ _ _ _ _ _ _ _ _ _ ?_
    unfold L_ref02_Fill_1T
    rw [List.drop_eq_nil_of_le (by omega)] at e1 e2
    have e1 : done ++ [] = res.1 := e1
    have e2 : t = res.2 := e2
    rw [List.append_nil] at e1
    have hjn : j = n := by omega
    subst hjn
    rw [e1] at own
    rw [e2]
    exact Br.no (by simp) (Ret.mk (k out oc h l0 own))
  | succ m ih =>
    intro j h t out oc done hj l0 ht h0t own hd e1 e2
    refine L_ref02_Fill_1r _ _ _ _ _ _ _ _ _ _ ?_
    unfold L_ref02_Fill_1T
    have hx : rooms[j]? = some rooms[j] := List.getElem?_eq_getElem (by omega)
    have hmem := hr rooms[j] (List.getElem_mem _)
    rw [List.drop_eq_getElem_cons (by omega : j < rooms.length), fillS] at e1 e2
    rw [wp1 (by omega)]
    generalize rooms[j] = r at *
    unfold I64 at ht hmem
    have hm : 0 ≤ (if t < r then t else r) ∧ (if t < r then t else r) ≤ t := by split <;> omega
    refine Br.yes (by simp; omega) (ix (I.le l0) hn rfl hx (pushG (ws := [.int .i64 (if t < r then t else r)]) own (by decide) l0 (by omega) rfl rfl (by rw [intsV_length, hd]; simp) fun p' c' h' l' w' _ _ => ix (I.le l') hn rfl hx ?_))
    generalize (if t < r then t else r) = v at *
    rw [wrap_i64_id (n := t - v) (by omega) (by omega)]
    have e : intsV .i64 done ++ [Value.int .i64 v] = intsV .i64 (done ++ [v]) := by rw [intsV_append]; rfl
    rw [e] at w'
    exact ih (j + 1) h' (t - v) p' c' (done ++ [v]) (by omega) l' (by unfold I64; omega) (by omega) w' (by rw [List.length_append, hd]; rfl) (by rw [List.append_assoc]; exact e1) e2
theorem rfill_0 {q : Option Addr} {rooms : List Int} {n c : Nat} {t : Int} (I : Ints .i64 h q rooms) (hn : rooms.length = n) (hs : n ≤ 64) (hI : allI64 rooms) (ht : I64 t)
    (k : ∀ p' c' h', h.le h' → Ints .i64 h' p' (fillR rooms t).1 → K (tuple #[slice p' (fillR rooms t).1.length c', .int .i64 (fillR rooms t).2.1, .int .i64 (fillR rooms t).2.2]) h') :
    ∀ (m j : Nat) (b : Bool), m + j = n → b = (decide (t < 0) || anyNeg (rooms.take j)) → L_ref02_Fill_0 t q n c b (j : Int) h K := by
  intro m
  induction m with
  | zero =>
    intro j b hj e
    refine L_ref02_Fill_0r _ _ _ _ _ _ _ _ ?_
    unfold L_ref02_Fill_0T
    rw [List.take_of_length_le (by omega)] at e
    refine Br.no (by simp; omega) (Br.intro (fun g => ?_) fun g => ?_)
    · have ef : fillR rooms t = ([], 0, 1) := by
        unfold fillR
        rw [if_neg (by omega)]
        split
        · rfl
        · rename_i g2
          rw [g, decide_eq_false g2, Bool.false_or] at e
          rw [if_pos e.symm]
      rw [ef] at k; exact Ret.mk (k none 0 h h.le_refl (.inl rfl))
    rw [g] at e
    have e := e.symm
    rw [Bool.or_eq_false_iff, decide_eq_false_iff_not] at e
    have ef : fillR rooms t = ((fillS rooms t).1, (fillS rooms t).2, 0) := by
      unfold fillR
      rw [if_neg (by omega), if_neg e.1, if_neg (by rw [e.2]; decide)]
    rw [ef] at k
    intro r hr
    refine rfill_1 (res := fillS rooms t) I hn hs (fun x hx => ⟨hI x hx, geL_of e.2 x hx⟩) (fun p' c' h' l' w' => ?_) n 0 _ t _ 0 [] (by omega) (le_ins hr) ht (by omega) (own_new hr) rfl rfl rfl
    have := k p' c' h' l' w'.rd
    dsimp only at this
    rw [fillS_len, hn] at this
    exact this
  | succ m ih =>
    intro j b hj e
    refine L_ref02_Fill_0r _ _ _ _ _ _ _ _ ?_
    unfold L_ref02_Fill_0T
    have hx : rooms[j]? = some rooms[j] := List.getElem?_eq_getElem (by omega)
    have e1 : rooms.take (j + 1) = rooms.take j ++ [rooms[j]] := by rw [List.take_add_one, hx]; rfl
    have nx := fun b => ih (j + 1) b (by omega)
    rw [e1, anyNeg_snoc, ← Bool.or_assoc, ← e] at nx
    rw [wp1 (by omega)]
    refine Br.yes (by simp; omega) (Br.intro (fun g => nx _ (by rw [g]; rfl)) fun g => ix I hn rfl hx (nx _ (by rw [g, Bool.false_or])))
theorem S_RFill {q : Option Addr} {rooms : List Int} {n c : Nat} {t : Int} (I : Ints .i64 h q rooms) (hn : rooms.length = n) (hI : allI64 rooms) (ht : I64 t)
    (k : ∀ p' c' h', h.le h' → Ints .i64 h' p' (fillR rooms t).1 → K (tuple #[slice p' (fillR rooms t).1.length c', .int .i64 (fillR rooms t).2.1, .int .i64 (fillR rooms t).2.2]) h') :
    CallA Try.prog fn_ref02_Fill [.int .i64 t, slice q n c] h K := by
  refine F_ref02_Fill _ _ _ _ _ _ ?_
  unfold F_ref02_FillT
  refine Br.dec (fun g => ?_) fun g => rfill_0 I hn (by omega) hI ht k n 0 _ (by omega) (by simp [anyNeg])
  have e : fillR rooms t = ([], 0, 4) := by unfold fillR; rw [if_pos (by omega)]
  rw [e] at k; exact Ret.mk (k none 0 h h.le_refl (.inl rfl))
end
end Go.Proofs.Ytghdadniddoboaa
