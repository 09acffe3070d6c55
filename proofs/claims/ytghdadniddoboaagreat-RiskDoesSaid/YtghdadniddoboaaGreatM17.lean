import Derived.Test.YtghdadniddoboaaGreatM16
import Derived.Test.YtghdadniddoboaaGreatM15
import Derived.Test.YtghdadniddoboaaGreatM05
/- A guard is made. -/
namespace Go.Proofs.YtghdadniddoboaaGreat
open Go Go.Sy Go.Value
set_option linter.unusedVariables false
set_option linter.unusedSimpArgs false

def minF : Int → List Int → Int
  | m, [] => m
  | m, n :: r => minF (if n < m then n else m) r
theorem minF_ge : ∀ (l : List Int) (m : Int), decide (minF m l ≥ 0) = (decide (0 ≤ m) && l.all fun y => decide (0 ≤ y))
  | [], m => by simp [minF]
  | n :: r, m => by
    rw [minF, minF_ge r, List.all_cons]
    by_cases h : n < m
    · rw [if_pos h]
      by_cases h1 : 0 ≤ n
      · rw [decide_eq_true h1, decide_eq_true (show 0 ≤ m by omega)]; simp
      · rw [decide_eq_false h1]; simp
    · rw [if_neg h]
      by_cases h1 : 0 ≤ m
      · rw [decide_eq_true h1, decide_eq_true (show 0 ≤ n by omega)]; simp
      · rw [decide_eq_false h1]; simp
def fitL (w : Nat) (l : Lm) : Bool := decide (l.sh.length = w) && (decide (0 ≤ l.all) && (decide (w = 0) || l.sh.all fun y => decide (0 ≤ y)))
section
variable {h : Heap} {K : Value → Heap → Prop}
theorem S_Min {q : Option Addr} {l : List Int} {n c : Nat} (I : Ints .i64 h q l) (hn : l.length = n) (hs : n ≤ 1000000) (h1 : 1 ≤ n) (k : ∀ v : Int, decide (v ≥ 0) = (l.all fun y => decide (0 ≤ y)) → K (.int .i64 v) h) :
    CallA Tryz.prog fn_slices_Min_int64_int64 [slice q n c] h K := by
  refine F_slices_Min_int64_int64 _ _ _ _ _ ?_
  unfold F_slices_Min_int64_int64T
  have hx : l[0]? = some (l.getD 0 0) := by rw [List.getD_eq_getElem?_getD, List.getElem?_eq_getElem (by omega)]; rfl
  refine Br.no (by simp; omega) (ix0 I hn hx ?_)
  have loop : ∀ (d j : Nat) (m : Int), d + j = n → decide (minF m (l.drop j) ≥ 0) = (l.all fun y => decide (0 ≤ y)) → L_slices_Min_int64_int64_0 q n c m (j : Int) h K := by
    intro d
    induction d with
    | zero =>
      intro j m hj e
      refine L_slices_Min_int64_int64_0r _ _ _ _ _ _ _ ?_
      unfold L_slices_Min_int64_int64_0T
      rw [List.drop_eq_nil_of_le (by omega)] at e
      exact Br.no (by simp; omega) (Ret.mk (k m e))
    | succ d ih =>
      intro j m hj e
      refine L_slices_Min_int64_int64_0r _ _ _ _ _ _ _ ?_
      unfold L_slices_Min_int64_int64_0T
      have hy : l[j]? = some l[j] := List.getElem?_eq_getElem (by omega)
      rw [List.drop_eq_getElem_cons (by omega : j < l.length), minF] at e
      generalize l[j] = y at *
      refine Br.yes (by simp; omega) (ix I hn rfl hy ?_)
      rw [w1 (by omega)]
      exact ih (j + 1) _ (by omega) e
  refine loop (n - 1) 1 _ (by omega) ?_
  rw [minF_ge]
  have : l = l.getD 0 0 :: l.drop 1 := by
    cases l with
    | nil => simp at hn; omega
    | cons a r => rfl
  conv => rhs; rw [this, List.all_cons]
theorem S_rfits {y : LmV} (Iy : LmI h y) (hs : y.l.sh.length ≤ 1000000) {w : Nat} (k : ∀ h', h.le h' → K (.bool (fitL w y.l)) h') :
    CallA Tryz.prog fn_risk_fits [agg #[.slice y.a y.l.sh.length y.c, .int .i64 y.l.all], .int .i64 (w : Int)] h K := by
  refine F_risk_fits _ _ _ _ _ _ _ ?_
  unfold F_risk_fitsT
  unfold fitL at k
  refine newB_at fun r h1 zr l1 A => ⟨_, _, _, A.cell rfl, ?_⟩
  by_cases e1 : y.l.sh.length = w
  · rw [decide_eq_true e1, Bool.true_and] at k
    refine Br.yes (by rw [e1]; simp) ⟨_, A.cell rfl, ?_⟩
    by_cases e2 : 0 ≤ y.l.all
    · rw [decide_eq_true e2, Bool.true_and] at k
      refine Br.yes (by simpa using e2) ?_
      by_cases e3 : w = 0
      · rw [decide_eq_true e3, Bool.true_or] at k
        exact Br.yes (by rw [e3]; rfl) (Ret.mk (k h1 l1))
      · rw [decide_eq_false e3, Bool.false_or] at k
        refine Br.no (by simpa using e3) ⟨_, _, _, A.cell rfl, S_Min (Iy.X.le l1) rfl hs (by omega) fun v ev => ⟨_, rfl, Ret.mk ?_⟩⟩
        rw [ev]
        exact k h1 l1
    · rw [decide_eq_false e2, Bool.false_and] at k
      exact Br.no (by simpa using e2) (Ret.mk (k h1 l1))
  · rw [decide_eq_false e1, Bool.false_and] at k
    exact Br.no (by simp; omega) (Ret.mk (k h1 l1))
theorem S_rNew1 {y : LmV} (Iy : LmI h y) (hs : y.l.sh.length ≤ 1000000) {w c0 : Nat} (A0 : At h c0 [.int .i64 (w : Int)]) (k : ∀ h', h.le h' → K (.bool (!fitL w y.l)) h') :
    CallA Tryz.prog fn_risk_New_1 [agg #[.slice y.a y.l.sh.length y.c, .int .i64 y.l.all], pointer (some ⟨c0, 0, none⟩)] h K := by
  refine F_risk_New_1 _ _ _ _ _ _ _ ?_
  unfold F_risk_New_1T
  exact newB_at fun r h1 zr l1 A => ⟨_, _, _, A.cell rfl, _, A.cell rfl, _, (A0.le l1).cell rfl, S_rfits (Iy.le l1) hs fun h2 l2 => ⟨_, rfl, Ret.mk (k h2 (Heap.le_trans l1 l2))⟩⟩
def badL (w : Nat) (l : List LmV) : Bool := l.any fun y => !fitL w y.l
theorem S_badL {q : Option Addr} {l : List LmV} {n c : Nat} (A : Arr lmV h q l) (hn : l.length = n) (hs : n ≤ 1000000) (hI : ∀ y ∈ l, LmI h y) (hsh : ∀ y ∈ l, y.l.sh.length ≤ 1000000) {w c0 : Nat} (A0 : At h c0 [.int .i64 (w : Int)]) (k : ∀ h', h.le h' → K (.bool (badL w l)) h') :
    CallA Tryz.prog fn_slices_ContainsFunc_api_Limit_api_Limit [slice q n c, func (Fn.func fn_risk_New_1) #[] #[pointer (some ⟨c0, 0, none⟩)]] h K := by
  refine F_slices_ContainsFunc_api_Limit_api_Limit _ _ _ _ _ _ ?_
  unfold F_slices_ContainsFunc_api_Limit_api_LimitT
  refine F_slices_IndexFunc_api_Limit_api_Limit _ _ _ _ _ _ ?_
  unfold F_slices_IndexFunc_api_Limit_api_LimitT
  have loop : ∀ (d j : Nat) (g : Heap), d + j = n → h.le g → badL w (l.drop j) = badL w l → L_slices_IndexFunc_api_Limit_api_Limit_0 q n c c0 (n : Int) (j : Int) g fun v h => ∃ i : Int, v = .int .i64 i ∧ Ret h K (.bool (decide (i ≥ 0))) := by
    intro d
    induction d with
    | zero =>
      intro j g hj lg e
      refine L_slices_IndexFunc_api_Limit_api_Limit_0r _ _ _ _ _ _ _ _ ?_
      unfold L_slices_IndexFunc_api_Limit_api_Limit_0T
      rw [List.drop_eq_nil_of_le (by omega)] at e
      refine Br.no (by simp; omega) (Ret.mk ⟨_, rfl, Ret.mk ?_⟩)
      have kk := k g lg
      rw [← e] at kk
      exact kk
    | succ d ih =>
      intro j g hj lg e
      refine L_slices_IndexFunc_api_Limit_api_Limit_0r _ _ _ _ _ _ _ _ ?_
      unfold L_slices_IndexFunc_api_Limit_api_Limit_0T
      have hx : l[j]? = some l[j] := List.getElem?_eq_getElem (by omega)
      have hm : l[j] ∈ l := List.getElem_mem _
      rw [List.drop_eq_getElem_cons (by omega : j < l.length)] at e
      generalize l[j] = y at *
      unfold badL at e
      rw [List.any_cons] at e
      refine Br.yes (by simp; omega) (lx (A.le lg) hn rfl hx (S_rNew1 ((hI y hm).le lg) (hsh y hm) (A0.le lg) fun h1 l1 => ⟨_, rfl, Br.intro (fun g1 => ?_) fun g1 => ?_⟩))
      · rw [g1, Bool.true_or] at e
        refine Ret.mk ⟨_, rfl, Ret.mk ?_⟩
        have kk := k h1 (Heap.le_trans lg l1)
        unfold badL at kk
        rw [← e] at kk
        rw [decide_eq_true (by omega)]
        exact kk
      · rw [g1, Bool.false_or] at e
        rw [w1 (by omega)]
        exact ih (j + 1) h1 (by omega) (Heap.le_trans lg l1) e
  exact loop n 0 h rfl h.le_refl rfl
structure LB (h1 hh : Heap) (p w fb N g : Nat) (a : Option Addr) (C : Nat) (ls : List LmV) : Prop where
  base : h1.le hh
  zg : h1 g = none
  zf : h1 fb = none
  gf : g ≠ fb
  ag : At hh g [.pointer (some ⟨p, 0, none⟩), .pointer (some ⟨w, 0, none⟩), .slice a ls.length C, .slice (some ⟨fb, 0, none⟩) N N]
  af : At hh fb (boV (List.replicate N false))
  own : OwnL h1 hh [.slice none 0 0, .int .i64 0] a C (ls.flatMap lmV)
  na : a ≠ some ⟨g, 0, none⟩ ∧ a ≠ some ⟨fb, 0, none⟩
  each : ∀ y ∈ ls, ∃ b sp, y.a = some ⟨b, 0, none⟩ ∧ h1 b = none ∧ At hh b (intsV .i64 y.l.sh ++ sp) ∧ b ≠ g ∧ b ≠ fb ∧ a ≠ some ⟨b, 0, none⟩ ∧ (∀ z ∈ y.l.sh, I64 z) ∧ I64 y.l.all
theorem repL_bo (n : Nat) : repL n [Value.bool false] = boV (List.replicate n false) := by
  induction n with
  | zero => rfl
  | succ n ih => rw [repL, ih, List.replicate_succ]; rfl
theorem LB.le {h1 hh h' : Heap} {p w fb N g : Nat} {a : Option Addr} {C : Nat} {ls : List LmV} (I : LB h1 hh p w fb N g a C ls) (l : hh.le h') : LB h1 h' p w fb N g a C ls := by
  refine { I with base := Heap.le_trans I.base l, ag := I.ag.le l, af := I.af.le l, own := I.own.le l, each := fun y hy => ?_ }
  obtain ⟨b, sp, e1, e2, e3, e4⟩ := I.each y hy
  exact ⟨b, sp, e1, e2, e3.le l, e4⟩
theorem wo_wo {h : Heap} {D E : Nat → Bool} (e : ∀ x, E x = false → D x = false) : (h.wo E).le (h.wo D) := fun x o hx => by
  cases he : E x with
  | true => rw [wo_none he] at hx; cases hx
  | false =>
    rw [wo_get he] at hx
    rw [wo_get (e x he)]
    exact hx
theorem newR_loop {hb : Heap} {K : Value → Heap → Prop} {p w fb N g : Nat} {q : Option Addr} {n qc W : Nat} {l0 : List LmV} (A : Arr lmV hb q l0) (hn : l0.length = n) (hs : n ≤ 1000000) (hI : ∀ y ∈ l0, LmI hb y) (hW : ∀ y ∈ l0, y.l.sh.length = W) (w1' : 1 ≤ W) (w8 : W ≤ 1000000)
    (k : ∀ hh a C ls, LB hb hh p w fb N g a C ls → ls.map (·.l) = l0.map (·.l) → CallA Tryz.prog fn_prisk_Guard_judge [pointer (some ⟨g, 0, none⟩)] hh fun v h => v = tuple #[] ∧ Ret h K (tuple #[pointer (some ⟨g, 0, none⟩), .int .i64 0])) :
    ∀ (d j : Nat) (hh : Heap) (a : Option Addr) (C : Nat) (ls : List LmV), d + j = n → LB hb hh p w fb N g a C ls → ls.length = j → ls.map (·.l) = (l0.take j).map (·.l) → L_risk_New_0 g q n qc (n : Int) (j : Int) hh K := by
  intro d
  induction d with
  | zero =>
    intro j hh a C ls hj I hl e
    refine L_risk_New_0r _ _ _ _ _ _ _ _ ?_
    unfold L_risk_New_0T
    rw [List.take_of_length_le (by omega)] at e
    exact Br.no (by simp; omega) (k hh a C ls I e)
  | succ d ih =>
    intro j hh a C ls hj I hl e
    refine L_risk_New_0r _ _ _ _ _ _ _ _ ?_
    unfold L_risk_New_0T
    have hx : l0[j]? = some l0[j] := List.getElem?_eq_getElem (by omega)
    have hm : l0[j] ∈ l0 := List.getElem_mem _
    have htk : l0.take (j + 1) = l0.take j ++ [l0[j]] := by rw [List.take_add_one, hx]; rfl
    generalize l0[j] = y at *
    have Iy := hI y hm
    have yW := hW y hm
    refine Br.yes (by simp; omega) (lx (A.le I.base) hn rfl hx (newB_cp (vs := [.slice y.a y.l.sh.length y.c, .int .i64 y.l.all]) rfl fun r h1 zr l1 Ar cs => ⟨cs, ?_⟩))
    generalize h1.setN r 0 [.slice y.a y.l.sh.length y.c, .int .i64 y.l.all] = H at *
    have I1 := I.le l1
    refine ⟨_, _, _, I1.ag.cell rfl, _, _, _, Ar.cell rfl, _, Ar.cell rfl, S_CloneW (Iy.X.le I1.base) rfl (by omega) (by omega) fun b sp cb h2 l2 zb Ab => ⟨_, _, _, rfl, .inl l2, ?_⟩⟩
    have I2 := I1.le l2
    have hv : (ls.flatMap lmV).length = ls.length * [Value.slice none 0 0, .int .i64 0].length := arr_len lmV_len ls
    refine push1 (ws := lmV ⟨some ⟨b, 0, none⟩, cb, y.l⟩) I2.own (by decide) I2.base (by omega) rfl rfl hv fun r2 h3 a' C' h4 zr2 l3 l4 own' keep how => ?_
    have bg : b ≠ g := fun e => I1.ag.ne zb e.symm
    have bf : b ≠ fb := fun e => I1.af.ne zb e.symm
    have ab : a ≠ some ⟨b, 0, none⟩ := I1.own.fresh zb
    have I3 := I2.le l3
    have ag4 := keepAt keep I3.ag I.na.1
    have a'g := push_ne how I3.ag I.na.1
    have a'f := push_ne how I3.af I.na.2
    have a'b := push_ne how (Ab.le l3) ab
    have l5 : hb.le (h4.setN g 2 [.slice a' (ls.length + 1) C']) := le_setN l4 I.zg
    refine ⟨ag4.canSt (by simp), ?_⟩
    rw [w1 (by omega)]
    refine ih (j + 1) _ a' C' (ls ++ [⟨some ⟨b, 0, none⟩, cb, y.l⟩]) (by omega) ⟨l5, I.zg, I.zf, I.gf, ?_, ?_, ?_, ⟨a'g, a'f⟩, fun z hz => ?_⟩ (by rw [List.length_append, List.length_singleton, hl]) (by rw [List.map_append, e, htk, List.map_append]; rfl)
    · have := ag4.set (o := 2) (ws := [.slice a' (ls.length + 1) C'])
      rw [List.length_append, List.length_singleton]
      exact this
    · exact (keepAt keep I3.af I.na.2).set_ne (fun e => I.gf e.symm)
    · rw [List.flatMap_append]
      exact own'.set_ne a'g
    · rcases List.mem_append.1 hz with hz | hz
      · obtain ⟨b2, sp2, e1, e2, e3, e4, e5, e6, e7⟩ := I3.each z hz
        exact ⟨b2, sp2, e1, e2, (keepAt keep e3 e6).set_ne e4, e4, e5, push_ne how e3 e6, e7⟩
      · rw [List.mem_singleton] at hz
        subst hz
        exact ⟨b, sp, rfl, none_of_le I1.base zb, (keepAt keep (Ab.le l3) ab).set_ne bg, bg, bf, a'b, Iy.i, Iy.all⟩
def newE (T : List Cur) (S : Lg) (l : List LmV) : Int := if tabE T ≠ 0 then tabE T else if S.cur ≠ T.length then 1 else if l.length ≠ S.M.length then 1 else if badL S.cur l = true then 1 else 0
def newU (T : List Cur) (S : Lg) (l : List LmV) : Gu := Gu.judge ⟨S, T, l.map (·.l), List.replicate S.M.length false⟩
def GuF.cB (x : GuF) (b : Nat) : Prop := b = x.g ∨ (∃ o, x.lp = some ⟨b, o, none⟩) ∨ ∃ y ∈ x.ls, ∃ o, y.a = some ⟨b, o, none⟩
theorem S_rNewX {h0 h : Heap} {K : Value → Heap → Prop} {S : Lg} {T : List Cur} {tp : Option Addr} {tn tc p B C : Nat} {sp : List Value} {q : Option Addr} {l0 : List LmV} {n qc : Nat} (lh : h0.le h) (CT : Curs h tp T) (hT : T.length = tn) (hts : tn ≤ 1000000) (LA : LedAt h p B C sp S) (np : h0 p = none) (nB : h0 B = none) (oS : S.Ok)
    (A : Arr lmV h0 q l0) (hn : l0.length = n) (hs : n ≤ 1000000) (hI : ∀ y ∈ l0, LmI h0 y) (hsh : ∀ y ∈ l0, y.l.sh.length ≤ 1000000)
    (k1 : newE T S l0 ≠ 0 → ∀ h', h0.le h' → LedAt h' p B C sp S → K (tuple #[pointer none, .int .i64 (newE T S l0)]) h')
    (k2 : newE T S l0 = 0 → ∀ h' x, GD h0 h' x (newU T S l0) → x.p = p → (∀ b, x.cB b → h0 b = none) → K (tuple #[pointer (some ⟨x.g, 0, none⟩), .int .i64 0]) h') :
    CallA Tryz.prog fn_risk_New [slice tp tn tc, pointer (some ⟨p, 0, none⟩), slice q n qc] h K := by
  refine F_risk_New _ _ _ _ _ _ _ _ _ ?_
  unfold F_risk_NewT
  unfold newE at k1 k2
  by_cases e1 : tabE T ≠ 0
  · rw [if_pos e1] at k1
    exact S_wNew CT hT hts LA (fun _ h1 l1 => ⟨_, _, rfl, Br.yes (by simpa using e1) (Ret.mk (k1 e1 h1 (Heap.le_trans lh l1) (LA.le l1)))⟩) (fun e => (e1 e).elim) (fun e => (e1 e).elim)
  rw [if_neg e1] at k1 k2
  have e1 : tabE T = 0 := Classical.byContradiction e1
  by_cases e2 : S.cur ≠ T.length
  · rw [if_pos e2] at k1
    exact S_wNew CT hT hts LA (fun e => (e e1).elim) (fun _ _ h1 l1 => ⟨_, _, rfl, Br.yes rfl (Ret.mk (k1 (by decide) h1 (Heap.le_trans lh l1) (LA.le l1)))⟩) (fun _ e => (e2 (by omega)).elim)
  rw [if_neg e2] at k1 k2
  have e2 : S.cur = T.length := Classical.byContradiction e2
  have n16 := oS.n16
  have c1 := oS.c1
  have c8 := oS.c8
  refine S_WNew lh CT hT LA np nB e1 (e2.trans hT) fun h1 f W1 => ⟨_, _, rfl, Br.no rfl (S_lSize W1.LA ⟨_, _, rfl, newB_cp (vs := [.int .i64 (S.cur : Int)]) rfl fun r h2 zr l2 Ar cs => ⟨cs, ?_⟩⟩)⟩
  generalize h2.setN r 0 [.int .i64 (S.cur : Int)] = H at *
  have W2 := W1.le l2
  by_cases e3 : l0.length ≠ S.M.length
  · rw [if_pos e3] at k1
    exact Br.yes (by simp; omega) (Ret.mk (k1 (by decide) H W2.base W2.LA))
  rw [if_neg e3] at k1 k2
  have e3 : l0.length = S.M.length := Classical.byContradiction e3
  refine Br.no (by simp; omega) (S_badL (A.le W2.base) hn hs (fun y hy => (hI y hy).le W2.base) hsh Ar fun h3 l3 => ⟨_, rfl, ?_⟩)
  have W3 := W2.le l3
  cases e4 : badL S.cur l0 with
  | true =>
    rw [e4, if_pos rfl] at k1
    exact Br.yes rfl (Ret.mk (k1 (by decide) h3 W3.base W3.LA))
  | false =>
    rw [e4] at k2
    have fit : ∀ y ∈ l0, y.l.sh.length = S.cur ∧ 0 ≤ y.l.all ∧ ∀ z ∈ y.l.sh, 0 ≤ z := fun y hy => by
      unfold badL at e4
      rw [List.any_eq_false] at e4
      have := e4 y hy
      unfold fitL at this
      simp only [Bool.not_eq_true', Bool.not_eq_false, Bool.and_eq_true, Bool.or_eq_true, decide_eq_true_eq, List.all_eq_true] at this
      refine ⟨this.1, this.2.1, fun z hz => ?_⟩
      rcases this.2.2 with h | h
      · omega
      · exact h z hz
    refine Br.no rfl ⟨by omega, by omega, by omega, by omega, newB_at fun fb h4 zf l4 Af => newB_at fun g h5 zg l5 Ag => ?_⟩
    rw [Int.toNat_natCast] at Ag
    rw [Int.toNat_natCast, repL_bo] at Af
    have gf : g ≠ fb := fun e => Af.ne zg e.symm
    refine newR_loop (hb := h3) (w := f.b 0) (fb := fb) (N := S.M.length) (W := S.cur) (A.le W3.base) hn hs (fun y hy => (hI y hy).le W3.base) (fun y hy => (fit y hy).1) c1 (by omega) (fun hh a C' ls I em => ?_) n 0 h5 none 0 [] rfl ⟨Heap.le_trans l4 l5, none_of_le l4 zg, zf, gf, Ag, Af.le l5, OwnL.nil _ _ _, ⟨fun e => (by cases e), fun e => (by cases e)⟩, fun y hy => (by cases hy)⟩ rfl rfl
    have Wh := W3.le I.base
    have out : ∀ {b : Nat}, h3 b = none → LWD p B f S.M.length b = false := fun e => W3.out e
    have E : ∀ b, (LWD p B f S.M.length b || b == fb) = false ↔ LWD p B f S.M.length b = false ∧ b ≠ fb := fun b => by rw [Bool.or_eq_false_iff]; simp
    have lc : h0.le (hh.wo fun b => LWD p B f S.M.length b || b == fb) := le_wo Wh.base fun b hb => by
      rw [Bool.or_eq_true] at hb
      rcases hb with hb | hb
      · exact Wh.none' hb
      · have hb : b = fb := by simpa using hb
        rw [hb]; exact none_of_le W3.base zf
    have el : ls.length = S.M.length := by
      have := congrArg List.length em
      rw [List.length_map, List.length_map] at this
      omega
    have hmem : ∀ y ∈ ls, ∃ z ∈ l0, z.l = y.l := fun y hy => by
      have : y.l ∈ l0.map (·.l) := by rw [← em]; exact List.mem_map_of_mem hy
      obtain ⟨z, hz, e⟩ := List.mem_map.1 this
      exact ⟨z, hz, e⟩
    have ok : Gu.Ok ⟨S, T, l0.map (·.l), List.replicate S.M.length false⟩ := by
      refine { o := oS, ef := List.length_replicate, eL := by show (l0.map _).length = _; rw [List.length_map]; exact e3, ec := e2, tab := e1, sh := fun l hl => ?_ }
      obtain ⟨z, hz, rfl⟩ := List.mem_map.1 hl
      obtain ⟨f1, f2, f3⟩ := fit z hz
      exact ⟨f1.trans e2, fun y hy => ⟨f3 y hy, (hI z hz).i y hy⟩, f2, (hI z hz).all⟩
    have G : GD h0 hh ⟨g, f.b 0, a, C', ls, fb, S.M.length, p, B, C, sp, f, fun i => rowG S (i : Int) T.length, hh.wo fun b => LWD p B f S.M.length b || b == fb, hh.wo (LWD p B f S.M.length)⟩ ⟨S, T, l0.map (·.l), List.replicate S.M.length false⟩ := by
      refine { base := lc, ck := wo_wo fun b hb => ((E b).1 hb).1, nf := ?_, ag := ?_, al := ?_, il := fun y hy => ?_, el := em, af := I.af.wo (out zf), ew := rfl, W := Wh.mv (wo_le _ _) (fun _ _ _ a => a) (fun b hb => wo_none hb), ok := ok, told := fun i _ => rfl }
      · exact wo_none (D := fun b => LWD p B f S.M.length b || b == fb) (by simp)
      · show At _ g [_, _, _, .slice (some ⟨fb, 0, none⟩) (List.replicate S.M.length false).length S.M.length]
        rw [List.length_replicate]
        exact I.ag.wo ((E g).2 ⟨out I.zg, gf⟩)
      · refine rd_wo I.own.rd fun b o e => (E b).2 ?_
        rcases I.own with ⟨_, e5, _⟩ | ⟨r5, sp5, e5, z5, _⟩
        · rw [e5] at e; cases e
        · rw [e5] at e
          cases e
          exact ⟨out z5, fun e6 => I.na.2 (by rw [e5, e6])⟩
      · obtain ⟨b, spb, c1', c2', c3', c4', c5', c6', c7', c8'⟩ := I.each y hy
        refine ⟨?_, c7', c8'⟩
        rw [c1']
        exact (c3'.wo ((E b).2 ⟨out c2', c5'⟩)).toRd
    have J := S_gJudgeX (K := fun v h => v = tuple #[] ∧ Ret h K (tuple #[pointer (some ⟨g, 0, none⟩), .int .i64 0])) G fun h' x' G' sm => ⟨rfl, Ret.mk (by
      have g1' : x'.g = g := sm.g
      rw [← g1']
      refine k2 rfl h' x' G' sm.p fun b hb => ?_
      unfold GuF.cB at hb
      rw [sm.g, sm.lp, sm.ls] at hb
      rcases hb with rfl | ⟨o, hb⟩ | ⟨y, hy, o, hb⟩
      · exact none_of_le W3.base I.zg
      · have hb : a = some ⟨b, o, none⟩ := hb
        rcases I.own with ⟨_, e5, _⟩ | ⟨r5, sp5, e5, z5, _⟩
        · rw [e5] at hb; cases hb
        · rw [e5] at hb; cases hb; exact none_of_le W3.base z5
      · obtain ⟨b', spb, c1', c2', _⟩ := I.each y hy
        rw [c1'] at hb
        cases hb
        exact none_of_le W3.base c2')⟩
    exact J
theorem S_rNew {h0 h : Heap} {K : Value → Heap → Prop} {S : Lg} {T : List Cur} {tp : Option Addr} {tn tc p B C : Nat} {sp : List Value} {q : Option Addr} {l0 : List LmV} {n qc : Nat} (lh : h0.le h) (CT : Curs h tp T) (hT : T.length = tn) (hts : tn ≤ 1000000) (LA : LedAt h p B C sp S) (np : h0 p = none) (nB : h0 B = none) (oS : S.Ok)
    (A : Arr lmV h0 q l0) (hn : l0.length = n) (hs : n ≤ 1000000) (hI : ∀ y ∈ l0, LmI h0 y) (hsh : ∀ y ∈ l0, y.l.sh.length ≤ 1000000)
    (k1 : newE T S l0 ≠ 0 → ∀ h', h0.le h' → LedAt h' p B C sp S → K (tuple #[pointer none, .int .i64 (newE T S l0)]) h')
    (k2 : newE T S l0 = 0 → ∀ h' x, GD h0 h' x (newU T S l0) → x.p = p → K (tuple #[pointer (some ⟨x.g, 0, none⟩), .int .i64 0]) h') :
    CallA Tryz.prog fn_risk_New [slice tp tn tc, pointer (some ⟨p, 0, none⟩), slice q n qc] h K := S_rNewX lh CT hT hts LA np nB oS A hn hs hI hsh k1 fun e h' x G ep _ => k2 e h' x G ep
end
end Go.Proofs.YtghdadniddoboaaGreat

/- A batch is tried, tested, and done. -/
namespace Go.Proofs.YtghdadniddoboaaGreat
open Go Go.Sy Go.Value
set_option linter.unusedVariables false
set_option linter.unusedSimpArgs false

def whoL : List Pst → List Int → List Int
  | [], l => l
  | y :: b, l => if y.m ∈ l then whoL b l else whoL b (l ++ [y.m])
theorem whoL_mem : ∀ (b : List Pst) (l : List Int) (v : Int), v ∈ whoL b l ↔ v ∈ l ∨ ∃ y ∈ b, y.m = v
  | [], l, v => by simp [whoL]
  | y :: b, l, v => by
    rw [whoL]
    by_cases h : y.m ∈ l
    · rw [if_pos h, whoL_mem b]
      constructor
      · rintro (h1 | ⟨z, hz, e⟩)
        · exact .inl h1
        · exact .inr ⟨z, List.mem_cons_of_mem _ hz, e⟩
      · rintro (h1 | ⟨z, hz, e⟩)
        · exact .inl h1
        · rcases List.mem_cons.1 hz with rfl | hz
          · exact .inl (by rw [← e]; exact h)
          · exact .inr ⟨z, hz, e⟩
    · rw [if_neg h, whoL_mem b]
      constructor
      · rintro (h1 | ⟨z, hz, e⟩)
        · rcases List.mem_append.1 h1 with h1 | h1
          · exact .inl h1
          · rw [List.mem_singleton] at h1
            exact .inr ⟨y, List.mem_cons_self .., h1.symm⟩
        · exact .inr ⟨z, List.mem_cons_of_mem _ hz, e⟩
      · rintro (h1 | ⟨z, hz, e⟩)
        · exact .inl (List.mem_append.2 (.inl h1))
        · rcases List.mem_cons.1 hz with rfl | hz
          · exact .inl (List.mem_append.2 (.inr (List.mem_singleton.2 e.symm)))
          · exact .inr ⟨z, hz, e⟩
theorem whoL_len : ∀ (b : List Pst) (l : List Int), (whoL b l).length ≤ l.length + b.length
  | [], l => Nat.le_refl _
  | y :: b, l => by
    rw [whoL]
    split
    · have := whoL_len b l; rw [List.length_cons]; omega
    · have := whoL_len b (l ++ [y.m]); rw [List.length_append, List.length_singleton] at this; rw [List.length_cons]; omega
theorem movedW_no (m : Int) : ∀ (b : List Pst) (r : List Int), (∀ y ∈ b, y.m ≠ m) → movedW m b r = some r
  | [], r, _ => rfl
  | y :: b, r, h => by
    rw [movedW, if_pos (h y (List.mem_cons_self ..))]
    exact movedW_no m b r fun z hz => h z (List.mem_cons_of_mem _ hz)
theorem post_in {S : Lg} {b : List Pst} (e : (postG S b).1 = 0) : (∀ p ∈ b, 0 ≤ p.m ∧ p.m < (S.M.length : Int) ∧ 0 ≤ p.c ∧ p.c < (S.cur : Int)) ∧ (addsM b S.M).1 = 0 ∧ (postG S b).2 = ⟨(addsM b S.M).2, S.N, S.cur⟩ := by
  unfold postG at *
  by_cases h1 : b.any (fun p => !hasB S p.m p.c) = true
  · rw [if_pos h1] at e; cases e
  rw [if_neg h1] at e ⊢
  by_cases h2 : evenB S b = false
  · rw [if_pos h2] at e; cases e
  rw [if_neg h2] at e ⊢
  by_cases h3 : (addsM b S.M).1 ≠ 0
  · rw [if_pos h3] at e; exact (h3 e).elim
  rw [if_neg h3]
  refine ⟨fun p hp => ?_, Classical.byContradiction h3, rfl⟩
  obtain ⟨i, j, e1, e2, e3, e4⟩ := hasB_t (any_has h1 p hp)
  omega
theorem post_row {S : Lg} (o : S.Sz) {b : List Pst} (e : (postG S b).1 = 0) {m : Nat} (hm : m < S.M.length) : movedW (m : Int) b (rowG S (m : Int) S.cur) = some (rowG (postG S b).2 (m : Int) S.cur) := by
  obtain ⟨h1, h2, h3⟩ := post_in e
  have sz := postG_sz S b
  rw [rowG_M hm (Nat.le_refl _), rowG_M (by rw [sz.1]; exact hm) (by rw [sz.2]; exact Nat.le_refl _), h3]
  exact moved_adds o.c8 hm b o.sh h1 h2
theorem post_same {S : Lg} (o : S.Sz) {b : List Pst} (e : (postG S b).1 = 0) {m : Nat} (hm : m < S.M.length) (hb : ∀ y ∈ b, y.m ≠ (m : Int)) : rowG (postG S b).2 (m : Int) S.cur = rowG S (m : Int) S.cur := by
  have := post_row o e hm
  rw [movedW_no _ _ _ hb] at this
  exact (Option.some.inj this).symm
section
variable {h : Heap} {K : Value → Heap → Prop}
theorem S_ContainsI {q : Option Addr} {l : List Int} {n c : Nat} {v : Int} (I : Ints .i64 h q l) (hn : l.length = n) (hs : n ≤ 1000000) (k : K (.bool (decide (v ∈ l))) h) : CallA Tryz.prog fn_slices_Contains_int_int [slice q n c, .int .i64 v] h K := by
  refine F_slices_Contains_int_int _ _ _ _ _ _ ?_
  unfold F_slices_Contains_int_intT
  refine F_slices_Index_int_int _ _ _ _ _ _ ?_
  unfold F_slices_Index_int_intT
  have loop : ∀ (d j : Nat), d + j = n → (v ∈ l.drop j ↔ v ∈ l) → L_slices_Index_int_int_0 q n c v (n : Int) (j : Int) h fun w h => ∃ i : Int, w = .int .i64 i ∧ Ret h K (.bool (decide (i ≥ 0))) := by
    intro d
    induction d with
    | zero =>
      intro j hj e
      refine L_slices_Index_int_int_0r _ _ _ _ _ _ _ _ ?_
      unfold L_slices_Index_int_int_0T
      rw [List.drop_eq_nil_of_le (by omega)] at e
      refine Br.no (by simp; omega) (Ret.mk ⟨_, rfl, Ret.mk ?_⟩)
      rw [decide_eq_false (fun g => by have := e.2 g; cases this)] at k
      exact k
    | succ d ih =>
      intro j hj e
      refine L_slices_Index_int_int_0r _ _ _ _ _ _ _ _ ?_
      unfold L_slices_Index_int_int_0T
      have hx : l[j]? = some l[j] := List.getElem?_eq_getElem (by omega)
      have hm : l[j] ∈ l := List.getElem_mem _
      rw [List.drop_eq_getElem_cons (by omega : j < l.length)] at e
      generalize l[j] = y at *
      refine Br.yes (by simp; omega) (ix I hn rfl hx (Br.intro (fun g => Ret.mk ⟨_, rfl, Ret.mk ?_⟩) fun g => ?_))
      · have g : v = y := by simpa using g
        rw [decide_eq_true (by rw [g]; exact hm)] at k
        rw [decide_eq_true (by omega)]
        exact k
      · have g : v ≠ y := by simpa using g
        rw [w1 (by omega)]
        refine ih (j + 1) (by omega) ⟨fun h => e.1 (List.mem_cons_of_mem _ h), fun h => ?_⟩
        rcases List.mem_cons.1 (e.2 h) with h | h
        · exact (g h).elim
        · exact h
  exact loop n 0 rfl Iff.rfl
theorem S_moved {q : Option Addr} {b : List Pst} {n qc : Nat} (Xb : Pos h q b) (hn : b.length = n) (hs : n ≤ 1000) (k : ∀ h' p' c', h.le h' → OwnL h h' [.int .i64 0] p' c' (intsV .i64 (whoL b [])) → K (slice p' (whoL b []).length c') h') :
    CallA Tryz.prog fn_risk_moved [slice q n qc] h K := by
  refine F_risk_moved _ _ _ _ _ ?_
  unfold F_risk_movedT
  have loop : ∀ (d j : Nat) (g : Heap) (p : Option Addr) (c : Nat) (l : List Int), d + j = n → h.le g → OwnL h g [.int .i64 0] p c (intsV .i64 l) → l.length ≤ j → whoL (b.drop j) l = whoL b [] → L_risk_moved_0 p l.length c q n qc (n : Int) (j : Int) g K := by
    intro d
    induction d with
    | zero =>
      intro j g p c l hj lg own hl e
      refine L_risk_moved_0r _ _ _ _ _ _ _ _ _ _ ?_
      unfold L_risk_moved_0T
      rw [List.drop_eq_nil_of_le (by omega), whoL] at e
      refine Br.no (by simp; omega) (Ret.mk ?_)
      rw [e] at own ⊢
      exact k g p c lg own
    | succ d ih =>
      intro j g p c l hj lg own hl e
      refine L_risk_moved_0r _ _ _ _ _ _ _ _ _ _ ?_
      unfold L_risk_moved_0T
      have hx : b[j]? = some b[j] := List.getElem?_eq_getElem (by omega)
      rw [List.drop_eq_getElem_cons (by omega : j < b.length), whoL] at e
      generalize b[j] = y at *
      refine Br.yes (by simp; omega) (px (rdL_le lg Xb) hn rfl hx (newB_cp (vs := [int .i64 y.m, int .i64 y.c, int .i64 y.a]) rfl fun s h1 zs l1 As cs => ⟨cs, _, As.cell rfl, ?_⟩))
      generalize h1.setN s 0 [int .i64 y.m, int .i64 y.c, int .i64 y.a] = H at *
      have own1 := own.le l1
      refine S_ContainsI (l := l) own1.rd rfl (by omega) ⟨_, rfl, ?_⟩
      by_cases hmem : y.m ∈ l
      · rw [if_pos hmem] at e
        rw [decide_eq_true hmem, w1 (by omega)]
        exact Br.no rfl (ih (j + 1) H p c l (by omega) (Heap.le_trans lg l1) own1 (by omega) e)
      · rw [if_neg hmem] at e
        rw [decide_eq_false hmem]
        refine Br.yes rfl ⟨_, As.cell rfl, push1 own1 (by decide) (Heap.le_trans lg l1) (by omega) rfl rfl (by rw [intsV_length]; simp) fun r2 h2 p' c' h3 hr2 l2 l3 own' _ _ => ?_⟩
        rw [w1 (by omega)]
        have := ih (j + 1) h3 p' c' (l ++ [y.m]) (by omega) l3 (by rw [intsV_append]; exact own') (by rw [List.length_append, List.length_singleton]; omega) e
        rw [List.length_append, List.length_singleton] at this
        exact this
  exact loop n 0 h none 0 [] rfl h.le_refl (OwnL.nil _ _ _) (Nat.le_refl _) rfl
end
def rBook (u : Gu) (b : List Pst) : Int × Gu :=
  if (postG u.S b).1 ≠ 0 then ((postG u.S b).1, u)
  else if b.any (fun y => u.fl.getD y.m.toNat false || (u.fails y.m b != 0)) = true then (10, u)
  else (0, u.setS (postG u.S b).2)
section
variable {h0 h : Heap} {K : Value → Heap → Prop} {x : GuF} {u : Gu}
theorem GR.outK (G : GR h0 h x u) {b : Nat} (hb : LWD x.p x.B x.f u.S.M.length b = true) : x.k b = none := G.W.none' hb
theorem GR.up (G : GR h0 h x u) : GR h0 h { x with k := h.wo (LWD x.p x.B x.f u.S.M.length) } u :=
  { G with ck := le_wo G.ch fun b hb => none_of_le G.ck (G.outK hb), af := G.f.wo (noD fun hd => G.af.ne (G.outK hd) rfl), W := G.W.off }
theorem GD.up (G : GD h0 h x u) : GD h0 h { x with k := h.wo (LWD x.p x.B x.f u.S.M.length) } u := { toGR := G.toGR.up, told := G.told }
section
variable {q : Option Addr} {b : List Pst} {n qc : Nat}
theorem S_gBook1 (G : GD h0 h x u) (Xb : Pos h q b) (hn : b.length = n) (hs : n ≤ 1000) (hb : ∀ y ∈ b, I64 y.a) {r0 r1 : Nat} (A0 : At h r0 [.pointer (some ⟨x.g, 0, none⟩)]) (A1 : At h r1 [.slice q n qc]) {m : Int} (hm : 0 ≤ m ∧ m < (u.fl.length : Int)) (k : ∀ h', h.le h' → K (.bool (u.fl.getD m.toNat false || (u.fails m b != 0))) h') :
    CallA Tryz.prog fn_prisk_Guard_Book_1 [.int .i64 m, pointer (some ⟨r0, 0, none⟩), pointer (some ⟨r1, 0, none⟩)] h K := by
  refine F_prisk_Guard_Book_1 _ _ _ _ _ ?_
  unfold F_prisk_Guard_Book_1T
  refine ⟨_, A0.cell rfl, withAddr_intro rfl ⟨_, _, _, G.g.cell rfl, hm.1, hm.2, withAddr_intro rfl ⟨_, G.flag (m := m.toNat) (by omega), ?_⟩⟩⟩
  cases hf : u.fl.getD m.toNat false with
  | true =>
    rw [hf, Bool.true_or] at k
    exact Br.yes rfl (Ret.mk (k h h.le_refl))
  | false =>
    rw [hf, Bool.false_or] at k
    exact Br.no rfl ⟨_, A0.cell rfl, _, _, _, A1.cell rfl, S_gFails G Xb hn (by omega) hb fun h1 l1 => ⟨_, rfl, Ret.mk (k h1 l1)⟩⟩
theorem S_gAny (G : GD h0 h x u) (Xb : Pos h q b) (hn : b.length = n) (hs : n ≤ 1000) (hb : ∀ y ∈ b, I64 y.a) {r0 r1 : Nat} (A0 : At h r0 [.pointer (some ⟨x.g, 0, none⟩)]) (A1 : At h r1 [.slice q n qc]) {p : Option Addr} {l : List Int} {c : Nat} (I : Ints .i64 h p l) (hl : l.length ≤ 1000000) (hin : ∀ m ∈ l, 0 ≤ m ∧ m < (u.fl.length : Int))
    (k : ∀ h', h.le h' → K (.bool (l.any fun m => u.fl.getD m.toNat false || (u.fails m b != 0))) h') :
    CallA Tryz.prog fn_slices_ContainsFunc_int_int [slice p l.length c, func (Fn.func fn_prisk_Guard_Book_1) #[] #[pointer (some ⟨r0, 0, none⟩), pointer (some ⟨r1, 0, none⟩)]] h K := by
  refine F_slices_ContainsFunc_int_int_r _ _ _ _ _ _ _ ?_
  unfold F_slices_ContainsFunc_int_int_rT
  refine F_slices_IndexFunc_int_int_r _ _ _ _ _ _ _ ?_
  unfold F_slices_IndexFunc_int_int_rT
  have loop : ∀ (d j : Nat) (g : Heap), d + j = l.length → h.le g → (l.drop j).any (fun m => u.fl.getD m.toNat false || (u.fails m b != 0)) = l.any (fun m => u.fl.getD m.toNat false || (u.fails m b != 0)) → L_slices_IndexFunc_int_int_r_0 p l.length c r0 r1 (l.length : Int) (j : Int) g fun v h => ∃ i : Int, v = .int .i64 i ∧ Ret h K (.bool (decide (i ≥ 0))) := by
    intro d
    induction d with
    | zero =>
      intro j g hj lg e
      refine L_slices_IndexFunc_int_int_r_0r _ _ _ _ _ _ _ _ _ ?_
      unfold L_slices_IndexFunc_int_int_r_0T
      rw [List.drop_eq_nil_of_le (by omega)] at e
      refine Br.no (by simp; omega) (Ret.mk ⟨_, rfl, Ret.mk ?_⟩)
      have kk := k g lg
      rw [← e] at kk
      exact kk
    | succ d ih =>
      intro j g hj lg e
      refine L_slices_IndexFunc_int_int_r_0r _ _ _ _ _ _ _ _ _ ?_
      unfold L_slices_IndexFunc_int_int_r_0T
      have hx : l[j]? = some l[j] := List.getElem?_eq_getElem (by omega)
      have hm := hin _ (List.getElem_mem (by omega : j < l.length))
      rw [List.drop_eq_getElem_cons (by omega : j < l.length), List.any_cons] at e
      generalize l[j] = y at *
      refine Br.yes (by simp; omega) (ix (I.le lg) rfl rfl hx (S_gBook1 (G.le lg) (rdL_le lg Xb) hn hs hb (A0.le lg) (A1.le lg) hm fun h1 l1 => ⟨_, rfl, Br.intro (fun g1 => ?_) fun g1 => ?_⟩))
      · rw [g1, Bool.true_or] at e
        refine Ret.mk ⟨_, rfl, Ret.mk ?_⟩
        have kk := k h1 (Heap.le_trans lg l1)
        rw [← e] at kk
        rw [decide_eq_true (by omega)]
        exact kk
      · rw [g1, Bool.false_or] at e
        rw [w1 (by omega)]
        exact ih (j + 1) h1 (by omega) (Heap.le_trans lg l1) e
  exact loop l.length 0 h rfl h.le_refl rfl
theorem S_gBook (G : GD h0 h x u) (Xb : Pos h0 q b) (hn : b.length = n) (hs : n ≤ 1000) (hI : ∀ x ∈ b, I64 x.m ∧ I64 x.c ∧ I64 x.a) (k : ∀ h' x', GD h0 h' x' (rBook u b).2 → x'.g = x.g → x'.p = x.p → K (.int .i64 (rBook u b).1) h') :
    CallA Tryz.prog fn_prisk_Guard_Book [pointer (some ⟨x.g, 0, none⟩), slice q n qc] h K := by
  refine F_prisk_Guard_Book _ _ _ _ _ _ ?_
  unfold F_prisk_Guard_BookT
  unfold rBook at k
  refine newB_at fun r h1 zr l1 Ar => newB_at fun r1 h2 zr1 l2 Ar1 => ⟨_, (Ar.le l2).cell rfl, ?_⟩
  have G2 := (G.le l1).le l2
  have Xh := rdL_le G2.b Xb
  refine withAddr_intro rfl ⟨_, G2.g.cell rfl, S_lText G2.W.LA fun h3 l3 => ⟨_, rfl, S_lRead G.ok.o fun h4 p4 B4 C4 sp4 l4 A4 np4 nB4 => ⟨_, _, rfl, Br.no rfl ⟨_, _, _, (Ar1.le (Heap.le_trans l3 l4)).cell rfl, ?_⟩⟩⟩⟩
  refine S_lPost l4 np4 nB4 A4 (rdL_le l3 Xh) hn hs hI fun h5 B5 C5 sp5 l5 A5 nB5 => ⟨_, rfl, ?_⟩
  have l35 := Heap.le_trans l3 l5
  have G5 := G2.le l35
  by_cases e1 : (postG u.S b).1 ≠ 0
  · rw [if_pos e1] at k
    exact Br.yes (by simpa using e1) (Ret.mk (k h5 x G5 rfl rfl))
  rw [if_neg e1] at k
  have e1 : (postG u.S b).1 = 0 := Classical.byContradiction e1
  obtain ⟨pin, _, _⟩ := post_in e1
  have Ar5 := Ar.le (Heap.le_trans l2 l35)
  have Ar15 := Ar1.le l35
  have whl := whoL_len b []
  rw [List.length_nil] at whl
  refine Br.no (by rw [e1]; rfl) ⟨_, _, _, Ar15.cell rfl, S_moved (rdL_le l35 Xh) hn hs fun h6 p6 c6 l6 own => ⟨_, _, _, rfl, ?_⟩⟩
  have G6 := G5.le l6
  have win : ∀ m ∈ whoL b [], 0 ≤ m ∧ m < (u.fl.length : Int) := fun m hm => by
    rcases (whoL_mem b [] m).1 hm with h | ⟨y, hy, rfl⟩
    · cases h
    · have := pin y hy
      have := G.ok.ef
      omega
  refine S_gAny G6 (rdL_le (Heap.le_trans l35 l6) Xh) hn hs (fun y hy => (hI y hy).2.2) (Ar5.le l6) (Ar15.le l6) own.rd (by omega) win fun h7 l7 => ⟨_, rfl, ?_⟩
  have G7 := G6.le l7
  have eany : (whoL b []).any (fun m => u.fl.getD m.toNat false || (u.fails m b != 0)) = b.any fun y => u.fl.getD y.m.toNat false || (u.fails y.m b != 0) := by
    rw [Bool.eq_iff_iff, List.any_eq_true, List.any_eq_true]
    constructor
    · rintro ⟨m, hm, e⟩
      rcases (whoL_mem b [] m).1 hm with h | ⟨y, hy, rfl⟩
      · cases h
      · exact ⟨y, hy, e⟩
    · rintro ⟨y, hy, e⟩
      exact ⟨y.m, (whoL_mem b [] _).2 (.inr ⟨y, hy, rfl⟩), e⟩
  rw [eany]
  cases e2 : b.any fun y => u.fl.getD y.m.toNat false || (u.fails y.m b != 0) with
  | true =>
    rw [e2, if_pos rfl] at k
    exact Br.yes rfl (Ret.mk (k h7 x G7 rfl rfl))
  | false =>
    rw [e2, if_neg (by decide)] at k
    have l67 := Heap.le_trans l6 l7
    have G8 := G7.toGR.up
    have out : ∀ {y : Nat}, h y = none → LWD x.p x.B x.f u.S.M.length y = false := fun e => G.W.out e
    have Ar8 := (Ar5.le l67).wo (out zr)
    have Ar18 := (Ar15.le l67).wo (out (none_of_le l1 zr1))
    have I8 : Ints .i64 (h7.wo (LWD x.p x.B x.f u.S.M.length)) p6 (whoL b []) := rd_wo (rdL_le l7 own.rd) fun y o e => by
      rcases own with ⟨_, e5, _⟩ | ⟨r5, sp5, e5, z5, _⟩
      · rw [e5] at e; cases e
      · rw [e5] at e
        cases e
        exact G5.W.out z5
    refine Br.no rfl ⟨_, (Ar5.le l67).cell rfl, withAddr_intro rfl ⟨_, G7.g.cell rfl, _, _, _, (Ar15.le l67).cell rfl, S_WPost G8.W (rdL_le (Heap.le_trans G8.base G8.ck) Xb) hn hs hI fun h9 B9 C9 sp9 W9 => ⟨_, rfl, ?_⟩⟩⟩
    rw [e1]
    have sz := postG_sz u.S b
    have ok' := G.ok.setS (postG_ok G.ok.o b) sz
    have eN : (u.setS (postG u.S b).2).S.M.length = u.S.M.length := sz.1
    have G9 : GR h0 h9 _ (u.setS (postG u.S b).2) := G8.turn (u' := u.setS (postG u.S b).2) (by rw [eN]; exact W9) rfl rfl rfl ok'
    have loop : ∀ (d j : Nat) (g : Heap) (y : GuF), d + j = (whoL b []).length → GR h0 g y (u.setS (postG u.S b).2) → y.k = h7.wo (LWD x.p x.B x.f u.S.M.length) → y.g = x.g → y.p = x.p → (∀ i, i < u.S.M.length → ((i : Int) ∉ (whoL b []).drop j) → y.R i = (u.setS (postG u.S b).2).row i) → L_prisk_Guard_Book_0 r 0 p6 (whoL b []).length c6 ((whoL b []).length : Int) (j : Int) g K := by
      intro d
      induction d with
      | zero =>
        intro j g y hj G ek eg ep tl
        refine L_prisk_Guard_Book_0r _ _ _ _ _ _ _ _ _ ?_
        unfold L_prisk_Guard_Book_0T
        rw [List.drop_eq_nil_of_le (by omega)] at tl
        exact Br.no (by simp; omega) (Ret.mk (k g y { toGR := G, told := fun i hi => tl i (by rw [← eN]; exact hi) (fun e => by cases e) } eg ep))
      | succ d ih =>
        intro j g y hj G ek eg ep tl
        refine L_prisk_Guard_Book_0r _ _ _ _ _ _ _ _ _ ?_
        unfold L_prisk_Guard_Book_0T
        have hx : (whoL b [])[j]? = some (whoL b [])[j] := List.getElem?_eq_getElem (by omega)
        rw [List.drop_eq_getElem_cons (by omega : j < (whoL b []).length)] at tl
        generalize (whoL b [])[j] = v at *
        have lg : (h7.wo (LWD x.p x.B x.f u.S.M.length)).le g := by rw [← ek]; exact G.W.base
        refine Br.yes (by simp; omega) (ix (I8.le lg) rfl rfl hx ⟨_, (Ar8.le lg).cell rfl, ?_⟩)
        rw [← eg]
        refine withAddr_intro rfl ⟨_, G.g.cell rfl, ?_⟩
        rw [← G.ew]
        refine S_WMoved G.W fun h2 f2 W2 c2 => ⟨rfl, ?_⟩
        rw [w1 (by omega)]
        refine ih (j + 1) h2 _ (by omega) (G.turn (u' := u.setS (postG u.S b).2) W2 c2 rfl rfl ok') ek eg ep fun i hi hnot => ?_
        show movR (postG u.S b).2 u.T.length (u.setS (postG u.S b).2).S.M.length y.R v i = rowG (postG u.S b).2 (i : Int) u.T.length
        unfold movR
        by_cases ev : v = (i : Int)
        · subst ev
          rw [if_pos (by omega), Int.toNat_natCast, updF_same]
        · have t := tl i hi (fun e => by
            rcases List.mem_cons.1 e with e | e
            · exact ev e.symm
            · exact hnot e)
          split
          · rw [updF_ne _ _ (by omega)]; exact t
          · exact t
    refine loop (whoL b []).length 0 h9 _ rfl G9 rfl rfl rfl fun i hi hnot => ?_
    show x.R i = rowG (postG u.S b).2 (i : Int) u.T.length
    rw [G.told i hi]
    show rowG u.S (i : Int) u.T.length = _
    have := post_same G.ok.o.toSz e1 hi (fun y hy e => hnot ((whoL_mem b [] _).2 (.inr ⟨y, hy, e⟩)))
    rw [G.ok.ec] at this
    exact this.symm
end
end
end Go.Proofs.YtghdadniddoboaaGreat

/- Plain laws of a guard: who isn't flagged passes all tests. -/
namespace Go.Proofs.YtghdadniddoboaaGreat
open Go Go.Sy Go.Value
set_option linter.unusedVariables false
set_option linter.unusedSimpArgs false

def Gu.held (u : Gu) : Prop := ∀ m : Nat, m < u.fl.length → u.fl.getD m false = false → u.fails (m : Int) [] = 0
/-! one posting -/
section
variable {u : Gu}
theorem rIn_ok {m c a : Int} (h : (rIn u m c a).1 = 0) : ∃ i : Nat, m = (i : Int) ∧ i < u.fl.length ∧ (ifW u.T (u.row i) (i : Int) [⟨(i : Int), c, a⟩]).2.2 = 0 ∧ (inG u.S (i : Int) c a).1 = 0 ∧ (rIn u m c a).2 = (u.setS (inG u.S (i : Int) c a).2).setF i (u.fl.getD i false && ((u.setS (inG u.S (i : Int) c a).2).fails (i : Int) [] != 0)) := by
  unfold rIn at *
  by_cases h1 : ¬ (0 ≤ m ∧ m < (u.fl.length : Int) ∧ 0 ≤ c ∧ c < (u.S.cur : Int) ∧ 1 ≤ a)
  · rw [if_pos h1] at h; cases h
  rw [if_neg h1] at h ⊢
  obtain ⟨i, rfl⟩ : ∃ i : Nat, m = i := ⟨m.toNat, by omega⟩
  rw [Int.toNat_natCast] at *
  by_cases h2 : (ifW u.T (u.row i) (i : Int) [⟨(i : Int), c, a⟩]).2.2 ≠ 0
  · rw [if_pos h2] at h; exact (h2 h).elim
  rw [if_neg h2] at h ⊢
  by_cases h3 : (inG u.S (i : Int) c a).1 ≠ 0
  · rw [if_pos h3] at h; exact (h3 h).elim
  rw [if_neg h3]
  exact ⟨i, rfl, by omega, Classical.byContradiction h2, Classical.byContradiction h3, rfl⟩
theorem rIn_err {m c a : Int} (h : (rIn u m c a).1 ≠ 0) : (rIn u m c a).2 = u := by
  unfold rIn at *
  split
  · rfl
  rename_i h1
  rw [if_neg h1] at h
  split
  · rfl
  rename_i h2
  rw [if_neg h2] at h
  split
  · rfl
  rename_i h3
  rw [if_neg h3] at h
  exact (h rfl).elim
theorem rOut_ok {m c a : Int} (h : (rOut u m c a).1 = 0) : ∃ i : Nat, m = (i : Int) ∧ i < u.fl.length ∧ u.fl.getD i false = false ∧ u.fails (i : Int) [⟨(i : Int), c, -a⟩] = 0 ∧ (outG u.S (i : Int) c a).1 = 0 ∧ (rOut u m c a).2 = u.setS (outG u.S (i : Int) c a).2 := by
  unfold rOut at *
  by_cases h1 : ¬ (0 ≤ m ∧ m < (u.fl.length : Int) ∧ 0 ≤ c ∧ c < (u.S.cur : Int) ∧ 1 ≤ a)
  · rw [if_pos h1] at h; cases h
  rw [if_neg h1] at h ⊢
  obtain ⟨i, rfl⟩ : ∃ i : Nat, m = i := ⟨m.toNat, by omega⟩
  rw [Int.toNat_natCast] at *
  by_cases h2 : u.fl.getD i false = true
  · rw [if_pos h2] at h; cases h
  rw [if_neg h2] at h ⊢
  by_cases h3 : getG u.S (i : Int) c < a
  · rw [if_pos h3] at h; cases h
  rw [if_neg h3] at h ⊢
  by_cases h4 : nosG u.S c < a
  · rw [if_pos h4] at h; cases h
  rw [if_neg h4] at h ⊢
  by_cases h5 : u.fails (i : Int) [⟨(i : Int), c, -a⟩] ≠ 0
  · rw [if_pos h5] at h; cases h
  rw [if_neg h5] at h ⊢
  exact ⟨i, rfl, by omega, by simpa using h2, Classical.byContradiction h5, h, rfl⟩
theorem rOut_err {m c a : Int} (h : (rOut u m c a).1 ≠ 0) : (rOut u m c a).2 = u := by
  unfold rOut at *
  split
  · rfl
  rename_i h1
  rw [if_neg h1] at h
  split
  · rfl
  rename_i h2
  rw [if_neg h2] at h
  split
  · rfl
  rename_i h3
  rw [if_neg h3] at h
  split
  · rfl
  rename_i h4
  rw [if_neg h4] at h
  split
  · rfl
  rename_i h5
  rw [if_neg h5] at h
  show u.setS (outG u.S m c a).2 = u
  rw [outG_err h]; rfl
theorem rBook_ok {b : List Pst} (h : (rBook u b).1 = 0) : (postG u.S b).1 = 0 ∧ (∀ y ∈ b, u.fl.getD y.m.toNat false = false ∧ u.fails y.m b = 0) ∧ (rBook u b).2 = u.setS (postG u.S b).2 := by
  unfold rBook at *
  by_cases h1 : (postG u.S b).1 ≠ 0
  · rw [if_pos h1] at h; exact (h1 h).elim
  rw [if_neg h1] at h ⊢
  by_cases h2 : b.any (fun y => u.fl.getD y.m.toNat false || (u.fails y.m b != 0)) = true
  · rw [if_pos h2] at h; cases h
  rw [if_neg h2]
  refine ⟨Classical.byContradiction h1, fun y hy => ?_, rfl⟩
  have h2 : b.any (fun y => u.fl.getD y.m.toNat false || (u.fails y.m b != 0)) = false := by simpa using h2
  rw [List.any_eq_false] at h2
  have := h2 y hy
  simp only [Bool.or_eq_true, not_or, Bool.not_eq_true, bne_eq_false_iff_eq] at this
  exact this
theorem rBook_err {b : List Pst} (h : (rBook u b).1 ≠ 0) : (rBook u b).2 = u := by
  unfold rBook at *
  split
  · rfl
  rename_i h1
  rw [if_neg h1] at h
  split
  · rfl
  rename_i h2
  rw [if_neg h2] at h
  exact (h rfl).elim
def doR (u : Gu) (o : OpR) : Int × Gu :=
  if o.d = 0 then rIn u o.m o.c o.a else if o.d = 1 then rOut u o.m o.c o.a else if o.d = 2 then rTurn u (wRate u.T o.c o.a) else if o.d = 3 then rTurn u (wCut u.T o.c o.a)
  else if o.d = 5 then rAnew u (postG u.S o.b) else if o.d = 6 then rAnew u (swapG u.S o.m o.c o.g o.a o.gv) else rBook u o.b
end
end Go.Proofs.YtghdadniddoboaaGreat

/- Operations of a guard, and the laws' first question. -/
namespace Go.Proofs.YtghdadniddoboaaGreat
open Go Go.Sy Go.Value
set_option linter.unusedVariables false
set_option linter.unusedSimpArgs false

def GuF.E (x : GuF) (N b : Nat) : Bool := LWD x.p x.B x.f N b || b == x.fb
section
variable {h0 h : Heap} {K : Value → Heap → Prop} {x : GuF} {u : Gu}
theorem GR.outE (G : GR h0 h x u) {b : Nat} (e : h b = none) : x.E u.S.M.length b = false := by
  unfold GuF.E
  rw [Bool.or_eq_false_iff]
  exact ⟨G.W.out e, by simpa using fun e2 => G.f.ne e e2.symm⟩
theorem GD.top (G : GD h0 h x u) : h0.le (h.wo (x.E u.S.M.length)) ∧ GD (h.wo (x.E u.S.M.length)) h { x with c := h.wo (x.E u.S.M.length), k := h.wo (LWD x.p x.B x.f u.S.M.length) } u := by
  have lc : x.c.le (h.wo (x.E u.S.M.length)) := le_wo G.ch fun b hb => by
    unfold GuF.E at hb
    rw [Bool.or_eq_true] at hb
    rcases hb with hb | hb
    · exact none_of_le G.ck (G.outK hb)
    · have hb : b = x.fb := by simpa using hb
      rw [hb]; exact G.nf
  refine ⟨Heap.le_trans G.base lc, ?_⟩
  exact { base := Heap.le_refl _, ck := wo_wo fun b hb => by unfold GuF.E at hb; rw [Bool.or_eq_false_iff] at hb; exact hb.1, nf := wo_none (by unfold GuF.E; simp), ag := G.ag.le lc, al := G.al.le lc, il := fun y hy => (G.il y hy).le lc, el := G.el, af := G.f.wo (noD fun hd => G.af.ne (G.outK hd) rfl), ew := G.ew, W := G.W.off, ok := G.ok, told := G.told }
theorem GD.topX (G : GD h0 h x u) : ∃ h1 y, h0.le h1 ∧ GD h1 h y u ∧ y.g = x.g ∧ y.p = x.p ∧ (∀ b xs, x.E u.S.M.length b = false → At h b xs → At h1 b xs) :=
  ⟨_, { x with c := h.wo (x.E u.S.M.length), k := h.wo (LWD x.p x.B x.f u.S.M.length) }, G.top.1, G.top.2, rfl, rfl, fun b xs e a => a.wo e⟩
theorem GD.relay (G : GD h0 h x u) {h' : Heap} (l : (h.wo fun b => b == x.p || b == x.B).le h') (LA : LedAt h' x.p x.B x.C x.sp u.S) : GD h0 h' x u := by
  have D3 : ∀ b, (b == x.p || b == x.B) = true → b = x.p ∨ b = x.B := fun b hb => by simpa using hb
  have lk : x.k.le h' := Heap.le_trans (le_wo G.W.base fun b hb => by
    rcases D3 b hb with rfl | rfl
    · exact G.W.np
    · exact G.W.nB) l
  refine { G with W := { G.W with LA := LA, base := lk, X := { G.W.X with fam := G.W.X.fam.mv fun b xs hb a => (a.wo ?_).le l } } }
  refine noD fun hd => ?_
  obtain ⟨i, hi, rfl⟩ := famD_t hb
  have := G.W.dp i hi
  rcases D3 _ hd with e | e
  · exact this.1 e
  · exact this.2 e
theorem S_do10 (G : GD h0 h x u) {o : OpR} (Xb : Pos h0 o.p o.b) (hI : OpI o) (hb : o.b.length ≤ 20) (k : ∀ h' x', GD h0 h' x' (doR u o).2 → x'.g = x.g → x'.p = x.p → K (.int .i64 (doR u o).1) h') :
    CallA Tryz.prog fn_law10_do [pointer (some ⟨x.g, 0, none⟩), agg #[.int .i64 o.d, .int .i64 o.m, .int .i64 o.c, .int .i64 o.g, .int .i64 o.a, .int .i64 o.gv, .slice o.p o.b.length o.cp]] h K := by
  refine F_law10_do _ _ _ _ _ _ _ _ _ _ _ _ ?_
  unfold F_law10_doT
  refine newB_at fun r h1 zr l1 A => ⟨_, A.cell rfl, ?_⟩
  have G1 := G.le l1
  unfold doR at k
  by_cases d0 : o.d = 0
  · rw [if_pos d0] at k
    exact Br.yes (by simpa using d0) ⟨_, A.cell rfl, _, A.cell rfl, _, A.cell rfl, S_gIn G1 hI.a fun h' x' G' e1 e2 => ⟨_, rfl, Ret.mk (k h' x' G' e1 e2)⟩⟩
  rw [if_neg d0] at k
  refine Br.no (by simpa using d0) ?_
  by_cases d1 : o.d = 1
  · rw [if_pos d1] at k
    exact Br.yes (by simpa using d1) ⟨_, A.cell rfl, _, A.cell rfl, _, A.cell rfl, S_gOut G1 hI.a fun h' x' G' e1 e2 => ⟨_, rfl, Ret.mk (k h' x' G' e1 e2)⟩⟩
  rw [if_neg d1] at k
  refine Br.no (by simpa using d1) ?_
  by_cases d2 : o.d = 2
  · rw [if_pos d2] at k
    exact Br.yes (by simpa using d2) ⟨_, A.cell rfl, _, A.cell rfl, S_gRate G1 fun h' x' G' e1 e2 => ⟨_, rfl, Ret.mk (k h' x' G' e1 e2)⟩⟩
  rw [if_neg d2] at k
  refine Br.no (by simpa using d2) ?_
  by_cases d3 : o.d = 3
  · rw [if_pos d3] at k
    exact Br.yes (by simpa using d3) ⟨_, A.cell rfl, _, A.cell rfl, S_gCut G1 fun h' x' G' e1 e2 => ⟨_, rfl, Ret.mk (k h' x' G' e1 e2)⟩⟩
  rw [if_neg d3] at k
  refine Br.no (by simpa using d3) ?_
  by_cases d5 : o.d = 5
  · rw [if_pos d5] at k
    exact Br.yes (by simpa using d5) ⟨_, _, _, A.cell rfl, S_gTake G1 Xb rfl (by omega) hI.b fun h' x' G' e1 e2 => ⟨_, rfl, Ret.mk (k h' x' G' e1 e2)⟩⟩
  rw [if_neg d5] at k
  refine Br.no (by simpa using d5) ?_
  by_cases d6 : o.d = 6
  · rw [if_pos d6] at k
    exact Br.yes (by simpa using d6) ⟨_, A.cell rfl, _, A.cell rfl, _, A.cell rfl, _, A.cell rfl, _, A.cell rfl, S_gSwap G1 hI.a hI.gv fun h' x' G' e1 e2 => ⟨_, rfl, Ret.mk (k h' x' G' e1 e2)⟩⟩
  rw [if_neg d6] at k
  exact Br.no (by simpa using d6) ⟨_, _, _, A.cell rfl, S_gBook G1 Xb rfl (by omega) hI.b fun h' x' G' e1 e2 => ⟨_, rfl, Ret.mk (k h' x' G' e1 e2)⟩⟩
end
section
variable {h : Heap} {K : Value → Heap → Prop}
theorem S_large10 {tp : Option Addr} {tn tc : Nat} {lq : Option Addr} {ls : List LmV} {ln lc : Nat} (Xl : Arr lmV h lq ls) (hl : ls.length = ln) (hls : ln ≤ 9223372036854775807) {q : Option Addr} {l : List OpR} {n c : Nat} (X : Ops h q l) (hn : l.length = n) (hs : n ≤ 9223372036854775807)
    (k : ∀ b : Bool, (b = false → n ≤ 30 ∧ tn ≤ 20 ∧ ln ≤ 20 ∧ (∀ x ∈ l, x.b.length ≤ 20) ∧ ∀ y ∈ ls, y.l.sh.length ≤ 20) → K (.bool b) h) :
    CallA Tryz.prog fn_law10_large [slice tp tn tc, slice lq ln lc, slice q n c] h K := by
  refine F_law10_large _ _ _ _ _ _ _ _ _ _ _ ?_
  unfold F_law10_largeT
  have w2 : ∀ {j n : Nat}, n ≤ 9223372036854775807 → j < n → IntKind.wrap .i64 ((j : Int) + 1) = ((j + 1 : Nat) : Int) := fun h1 h2 => by rw [wrap_i64_id (by omega) (by omega)]; omega
  have loop1 : (∀ x ∈ l, x.b.length ≤ 20) → ∀ (m j : Nat), m + j = ln → (∀ y ∈ ls.take j, y.l.sh.length ≤ 20) → L_law10_large_1 tp tn tc lq ln lc q n c (ln : Int) (j : Int) h K := by
    intro hb m
    induction m with
    | zero =>
      intro j hj e
      refine L_law10_large_1r _ _ _ _ _ _ _ _ _ _ _ _ _ ?_
      unfold L_law10_large_1T
      rw [List.take_of_length_le (by omega)] at e
      refine Br.no (by simp; omega) (Br.dec (fun _ => Ret.mk (k true fun e => by cases e)) fun g1 => Br.dec (fun _ => Ret.mk (k true fun e => by cases e)) fun g2 => Ret.mk (k _ fun g3 => ?_))
      have := of_decide_eq_false g3
      exact ⟨by omega, by omega, by omega, hb, e⟩
    | succ m ih =>
      intro j hj e
      refine L_law10_large_1r _ _ _ _ _ _ _ _ _ _ _ _ _ ?_
      unfold L_law10_large_1T
      have hx : ls[j]? = some ls[j] := List.getElem?_eq_getElem (by omega)
      have htk : ls.take (j + 1) = ls.take j ++ [ls[j]] := by rw [List.take_add_one, hx]; rfl
      generalize ls[j] = y at *
      refine Br.yes (by simp; omega) (lx0 Xl hl rfl hx (Br.dec (fun _ => Ret.mk (k true fun e => by cases e)) fun g => ?_))
      rw [w2 hls (by omega)]
      refine ih (j + 1) (by omega) fun z hz => ?_
      rw [htk] at hz
      rcases List.mem_append.1 hz with hz | hz
      · exact e z hz
      · rw [List.mem_singleton] at hz; subst hz; omega
  have loop0 : ∀ (m j : Nat), m + j = n → (∀ x ∈ l.take j, x.b.length ≤ 20) → L_law10_large_0 tp tn tc lq ln lc q n c (n : Int) (j : Int) h K := by
    intro m
    induction m with
    | zero =>
      intro j hj e
      refine L_law10_large_0r _ _ _ _ _ _ _ _ _ _ _ _ _ ?_
      unfold L_law10_large_0T
      rw [List.take_of_length_le (by omega)] at e
      exact Br.no (by simp; omega) (loop1 e ln 0 rfl fun y hy => by simp at hy)
    | succ m ih =>
      intro j hj e
      refine L_law10_large_0r _ _ _ _ _ _ _ _ _ _ _ _ _ ?_
      unfold L_law10_large_0T
      have hx : l[j]? = some l[j] := List.getElem?_eq_getElem (by omega)
      have htk : l.take (j + 1) = l.take j ++ [l[j]] := by rw [List.take_add_one, hx]; rfl
      generalize l[j] = y at *
      refine Br.yes (by simp; omega) (ox6 X hn rfl hx (Br.dec (fun _ => Ret.mk (k true fun e => by cases e)) fun g => ?_))
      rw [w2 hs (by omega)]
      refine ih (j + 1) (by omega) fun z hz => ?_
      rw [htk] at hz
      rcases List.mem_append.1 hz with hz | hz
      · exact e z hz
      · rw [List.mem_singleton] at hz; subst hz; omega
  exact loop0 n 0 rfl fun x hx => by simp at hx
end
/-! the first question -/
def gT : List Cur := [⟨⟨#[69, 85, 82]⟩, 10000, 0⟩, ⟨⟨#[85, 83, 68]⟩, 12500, 0⟩]
def gL : List Lm := [⟨[0, 100], 50⟩, ⟨[0, 0], 0⟩]
def gu0 : Gu := Gu.judge ⟨newG 2 2, gT, gL, List.replicate 2 false⟩
def gu1 : Gu := (rIn gu0 0 0 100).2
def gu2 : Gu := (rIn gu1 1 1 100).2
def gb1 : List Pst := [⟨0, 0, -90⟩, ⟨0, 1, -60⟩]
def gb2 : List Pst := [⟨0, 1, -40⟩, ⟨1, 1, 40⟩]
def gb3 : List Pst := [⟨0, 1, -1⟩, ⟨1, 1, 1⟩]
def gu3 : Gu := (rBook gu2 gb2).2
def gu4 : Gu := (rBook gu3 gb3).2
def gu5 : Gu := (rTurn gu4 (wRate gu4.T 1 12600)).2
def gu6 : Gu := (rOut gu5 0 0 1).2
def gu7 : Gu := (rOut gu6 1 1 10).2
theorem g_1 : (rIn gu0 0 0 100).1 = 0 := by decide +kernel
theorem g_2 : (rIn gu1 1 1 100).1 = 0 := by decide +kernel
theorem g_f : gu2.fails 0 gb1 = 5 := by decide +kernel
theorem g_3 : (rBook gu2 gb2).1 = 0 := by decide +kernel
theorem g_4 : (rBook gu3 gb3).1 = 10 := by decide +kernel
theorem g_5 : (rTurn gu4 (wRate gu4.T 1 12600)).1 = 0 := by decide +kernel
theorem g_6 : (rOut gu5 0 0 1).1 = 10 := by decide +kernel
theorem g_7 : (rOut gu6 1 1 10).1 = 0 := by decide +kernel
theorem g_f0 : gu7.flag 0 = true := by decide +kernel
theorem g_f1 : gu7.flag 1 = false := by decide +kernel
theorem g_f2 : gu7.flag 2 = false := by decide +kernel
theorem g_get : getG gu7.S 1 1 = 130 := by decide +kernel
end Go.Proofs.YtghdadniddoboaaGreat
