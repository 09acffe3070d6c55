import Derived.Test.YtghdadniddoboaaM13
import Derived.Test.YtghdadniddoboaaM14
import Derived.Test.YtghdadniddoboaaM15
import Derived.Test.YtghdadniddoboaaM05
import Derived.Test.YtghdadniddoboaaM11
/- A ledger and worths of it, side by side; operations on both. -/
namespace Go.Proofs.Ytghdadniddoboaa
open Go Go.Sy Go.Value
set_option linter.unusedVariables false
set_option linter.unusedSimpArgs false

structure LW (h0 h : Heap) (S : Lg) (p B C : Nat) (sp : List Value) (f : WoF) (T : List Cur) (N : Nat) (R : Nat → List Int) : Prop where
  LA : LedAt h p B C sp S
  X : WoX h f T N N (fun i => acOf T (R i))
  eN : S.M.length = N
  lp : f.lp = p
  base : h0.le h
  np : h0 p = none
  nB : h0 B = none
  fr : ∀ i, i < 3 + 3 * N → h0 (f.b i) = none
  dp : ∀ i, i < 3 + 3 * N → f.b i ≠ p ∧ f.b i ≠ B
  tab : tabE T = 0
  ln : ∀ i, i < N → (R i).length = T.length
  i64 : ∀ i, i < N → ∀ y ∈ R i, I64 y
section
variable {h0 h : Heap} {K : Value → Heap → Prop} {S : Lg} {p B C : Nat} {sp : List Value} {f : WoF} {T : List Cur} {N : Nat} {R : Nat → List Int}
theorem LW.le {h' : Heap} (W : LW h0 h S p B C sp f T N R) (l : h.le h') : LW h0 h' S p B C sp f T N R := { W with LA := W.LA.le l, X := W.X.le l, base := Heap.le_trans W.base l }
/-- without the ledger -/
theorem LW.woL (W : LW h0 h S p B C sp f T N R) : ∃ g : Heap, h0.le g ∧ g.le h ∧ g p = none ∧ g B = none ∧ WoX g f T N N (fun i => acOf T (R i)) := by
  have hD : ∀ x, (x == p || x == B) = true → x = p ∨ x = B := fun x hx => by simpa using hx
  refine ⟨h.wo fun x => x == p || x == B, le_wo W.base fun x hx => ?_, wo_le _ _, wo_none (by simp), wo_none (by simp), { W.X with fam := W.X.fam.mv fun x xs hx a => a.wo ?_ }⟩
  · rcases hD x hx with rfl | rfl
    · exact W.np
    · exact W.nB
  · obtain ⟨i, hi, rfl⟩ := famD_t hx
    have := W.dp i hi
    simp [this.1, this.2]
/-- without the worths -/
theorem LW.woW (W : LW h0 h S p B C sp f T N R) : ∃ g : Heap, h0.le g ∧ g.le h ∧ (∀ i, i < 3 + 3 * N → g (f.b i) = none) ∧ LedAt g p B C sp S := by
  refine ⟨h.wo (famD (3 + 3 * N) f.b), le_wo W.base fun x hx => ?_, wo_le _ _, fun i hi => wo_none (famD_i hi), ⟨W.LA.ap.wo (famD_no fun i hi => (W.dp i hi).1), W.LA.ab.wo (famD_no fun i hi => (W.dp i hi).2), W.LA.ne, W.LA.sz⟩⟩
  obtain ⟨i, hi, rfl⟩ := famD_t hx
  exact W.fr i hi
theorem S_WIn (W : LW h0 h S p B C sp f T N R) {m c a : Int} (ha : I64 a) (k : ∀ h', LW h0 h' (inG S m c a).2 p B C sp f T N R → K (.int .i64 (inG S m c a).1) h') :
    CallA Try.prog fn_pledger_Ledger_In [pointer (some ⟨p, 0, none⟩), .int .i64 m, .int .i64 c, .int .i64 a] h K := by
  obtain ⟨g, g1, g2, g3, g4, X⟩ := W.woL
  exact S_lIn g2 g3 g4 W.LA ha fun h' l' A' => k h' { W with LA := A', X := X.le l', eN := (inG_sz S m c a).1.trans W.eN, base := Heap.le_trans g1 l' }
theorem S_WPost (W : LW h0 h S p B C sp f T N R) {q : Option Addr} {b : List Pst} {n qc : Nat} (Xb : Pos h0 q b) (hn : b.length = n) (hs : n ≤ 1000) (hI : ∀ x ∈ b, I64 x.m ∧ I64 x.c ∧ I64 x.a) (k : ∀ h' B' C' sp', LW h0 h' (postG S b).2 p B' C' sp' f T N R → K (.int .i64 (postG S b).1) h') :
    CallA Try.prog fn_pledger_Ledger_Post [pointer (some ⟨p, 0, none⟩), slice q n qc] h K := by
  obtain ⟨g, g1, g2, g3, g4, X⟩ := W.woL
  exact S_lPost g2 g3 g4 W.LA (rdL_le g1 Xb) hn hs hI fun h' B' C' sp' l' A' n' => k h' B' C' sp' { W with LA := A', X := X.le l', eN := (postG_sz S b).1.trans W.eN, base := Heap.le_trans g1 l', nB := none_of_le g1 n', dp := fun i hi => ⟨(W.dp i hi).1, (X.fam.at' i hi).ne n'⟩ }
theorem LW.wnew (W : LW h0 h S p B C sp f T N R) {g h' : Heap} {f' : WoF} {T' : List Cur} {R' : Nat → List Int} (g1 : h0.le g) (G : LedAt g p B C sp S) (l' : g.le h') (elp : f'.lp = f.lp) (fr : ∀ i, i < 3 + 3 * N → g (f'.b i) = none) (X : WoX h' f' T' N N (fun i => acOf T' (R' i)))
    (tab : tabE T' = 0) (ln : ∀ i, i < N → (R' i).length = T'.length) (i64 : ∀ i, i < N → ∀ y ∈ R' i, I64 y) : LW h0 h' S p B C sp f' T' N R' :=
  { LA := G.le l', X := X, eN := W.eN, lp := elp.trans W.lp, base := Heap.le_trans g1 l', np := W.np, nB := W.nB, fr := fun i hi => none_of_le g1 (fr i hi), dp := fun i hi => ⟨fun e => G.ap.ne (fr i hi) e.symm, fun e => G.ab.ne (fr i hi) e.symm⟩, tab := tab, ln := ln, i64 := i64 }
def movR (S : Lg) (w N : Nat) (R : Nat → List Int) (m : Int) : Nat → List Int := if 0 ≤ m ∧ m < (N : Int) then updF R m.toNat (rowG S m w) else R
theorem acOf_upd (T : List Cur) (R : Nat → List Int) (m : Nat) (r : List Int) : updF (fun i => acOf T (R i)) m (acOf T r) = fun i => acOf T (updF R m r i) := by
  funext i
  by_cases e : i = m
  · subst e; rw [updF_same, updF_same]
  · rw [updF_ne _ _ e, updF_ne _ _ e]
theorem S_WMoved (W : LW h0 h S p B C sp f T N R) {m : Int} (k : ∀ h' f', LW h0 h' S p B C sp f' T N (movR S T.length N R m) → f'.b 0 = f.b 0 → K (tuple #[]) h') :
    CallA Try.prog fn_pworth_Worths_Moved [pointer (some ⟨f.b 0, 0, none⟩), int .i64 m] h K := by
  obtain ⟨g, g1, g2, g3, G⟩ := W.woW
  refine S_wMoved g2 g3 W.tab W.X (by rw [W.lp]; exact W.LA) fun h' f' l' e0 elp fr X => k h' f' ?_ e0
  have eX : (if 0 ≤ m ∧ m < (N : Int) then updF (fun i => acOf T (R i)) m.toNat (acOf T (rowG S m T.length)) else fun i => acOf T (R i)) = fun i => acOf T (movR S T.length N R m i) := by
    unfold movR
    split
    · exact acOf_upd _ _ _ _
    · rfl
  rw [eX] at X
  refine W.wnew g1 G l' elp fr X W.tab (fun i hi => ?_) fun i hi => ?_
  · unfold movR
    split
    · by_cases e : i = m.toNat
      · subst e; rw [updF_same, rowG_len]
      · rw [updF_ne _ _ e]; exact W.ln i hi
    · exact W.ln i hi
  · unfold movR
    split
    · by_cases e : i = m.toNat
      · subst e; rw [updF_same]; exact rowG_I W.LA.sz _ _
      · rw [updF_ne _ _ e]; exact W.i64 i hi
    · exact W.i64 i hi
theorem turnT_some {T : List Cur} {o : Option (List Cur)} (h : tabE T = 0) (ho : ∀ T', o = some T' → tabE T' = 0 ∧ T'.length = T.length) : tabE (turnT T o) = 0 ∧ (turnT T o).length = T.length := by
  cases o with
  | none => exact ⟨h, rfl⟩
  | some T' => exact ho T' rfl
theorem wRate_tab {T : List Cur} (h : tabE T = 0) (c r : Int) : tabE (turnT T (wRate T c r)) = 0 ∧ (turnT T (wRate T c r)).length = T.length := turnT_some h fun T' e => by
  obtain ⟨j, x, _, _, rfl, e2⟩ := wRate_some h e
  exact ⟨e2, List.length_set⟩
theorem wCut_tab {T : List Cur} (h : tabE T = 0) (c r : Int) : tabE (turnT T (wCut T c r)) = 0 ∧ (turnT T (wCut T c r)).length = T.length := turnT_some h fun T' e => by
  obtain ⟨j, x, _, _, rfl, e2⟩ := wCut_some h e
  exact ⟨e2, List.length_set⟩
theorem S_WRate (W : LW h0 h S p B C sp f T N R) {c r : Int} (k : ∀ h' f', LW h0 h' S p B C sp f' (turnT T (wRate T c r)) N R → f'.b 0 = f.b 0 → K (.int .i64 (turnE (wRate T c r))) h') :
    CallA Try.prog fn_pworth_Worths_Rate [pointer (some ⟨f.b 0, 0, none⟩), int .i64 c, int .i64 r] h K := by
  obtain ⟨g, g1, g2, g3, G⟩ := W.woW
  have ht := wRate_tab W.tab c r
  exact S_wRate g2 W.tab W.ln W.i64 g3 (by have := W.LA.sz.n16; have := W.eN; omega) W.X fun h' f' l' e0 elp fr X => k h' f' (W.wnew g1 G l' elp fr X ht.1 (fun i hi => by rw [ht.2]; exact W.ln i hi) W.i64) e0
theorem S_WCut (W : LW h0 h S p B C sp f T N R) {c r : Int} (k : ∀ h' f', LW h0 h' S p B C sp f' (turnT T (wCut T c r)) N R → f'.b 0 = f.b 0 → K (.int .i64 (turnE (wCut T c r))) h') :
    CallA Try.prog fn_pworth_Worths_Cut [pointer (some ⟨f.b 0, 0, none⟩), int .i64 c, int .i64 r] h K := by
  obtain ⟨g, g1, g2, g3, G⟩ := W.woW
  have ht := wCut_tab W.tab c r
  exact S_wCut g2 W.tab W.ln W.i64 g3 (by have := W.LA.sz.n16; have := W.eN; omega) W.X fun h' f' l' e0 elp fr X => k h' f' (W.wnew g1 G l' elp fr X ht.1 (fun i hi => by rw [ht.2]; exact W.ln i hi) W.i64) e0
/-- both, made -/
theorem S_WNew {tp : Option Addr} {tn tc : Nat} (l0 : h0.le h) (CT : Curs h tp T) (hn : T.length = tn) (LA : LedAt h p B C sp S) (np : h0 p = none) (nB : h0 B = none) (hT : tabE T = 0) (hc : S.cur = tn)
    (k : ∀ h' f, LW h0 h' S p B C sp f T S.M.length (fun i => rowG S (i : Int) T.length) → K (tuple #[.pointer (some ⟨f.b 0, 0, none⟩), .int .i64 0]) h') : CallA Try.prog fn_worth_New [slice tp tn tc, .pointer (some ⟨p, 0, none⟩)] h K := by
  obtain ⟨_, t8, _⟩ := tab_parts hT
  exact S_wNew CT hn (by omega) LA (fun e => (e hT).elim) (fun _ e => (e hc).elim) fun _ _ h' f l' X elp fr => k h' f { LA := LA.le l', X := X, eN := rfl, lp := elp, base := Heap.le_trans l0 l', np := np, nB := nB, fr := fun i hi => none_of_le l0 (fr i hi), dp := fun i hi => ⟨fun e => LA.ap.ne (fr i hi) e.symm, fun e => LA.ab.ne (fr i hi) e.symm⟩, tab := hT, ln := fun i _ => rowG_len _ _ _, i64 := fun i _ => rowG_I LA.sz _ _ }
end
end Go.Proofs.Ytghdadniddoboaa

/- Plain laws of worths that more than one proof wants. -/
namespace Go.Proofs.Ytghdadniddoboaa
open Go Go.Sy Go.Value
set_option linter.unusedVariables false
set_option linter.unusedSimpArgs false

theorem u8_of_wf {n : Int} (h : (Lit.int .u8 n).wf = true) : 0 ≤ n ∧ n ≤ 255 := by
  have h1 : (decide (IntKind.u8.min ≤ n) && decide (n ≤ IntKind.u8.max)) = true := h
  rw [Bool.and_eq_true, decide_eq_true_eq, decide_eq_true_eq] at h1
  have e1 : IntKind.u8.min = 0 := by decide
  have e2 : IntKind.u8.max = 255 := by decide
  rw [e1, e2] at h1
  exact h1
theorem many_of {n : Int} (h : (Lit.int .u8 n).wf = true) : ∃ k : Nat, IntKind.wrap .i64 (IntKind.wrap .i64 (n.tmod 16) + 1) = (k : Int) ∧ 1 ≤ k ∧ k ≤ 16 := by
  obtain ⟨h1, h2⟩ := u8_of_wf h
  rw [Int.tmod_eq_emod_of_nonneg h1]
  have := Int.emod_nonneg n (show (16 : Int) ≠ 0 by decide)
  have := Int.emod_lt_of_pos n (show (0 : Int) < 16 by decide)
  rw [wrap_i64_id (n := n % 16) (by omega) (by omega), wrap_i64_id (by omega) (by omega)]
  exact ⟨(n % 16 + 1).toNat, by omega, by omega, by omega⟩
theorem getG_in {S : Lg} (o : S.Sz) {m c a : Int} {i : Nat} (hi : (i : Int) ≠ m) (d : Int) : getG (inG S m c a).2 (i : Int) d = getG S (i : Int) d := by
  unfold inG
  split
  · rfl
  split
  · rfl
  split
  · rfl
  split
  · rfl
  rename_i h1 _ _ _
  have hb : hasB S m c = true := by simpa using h1
  obtain ⟨x, y, rfl, rfl, hx, hy⟩ := hasB_t hb
  rw [Int.toNat_natCast, Int.toNat_natCast]
  have hc8 := o.c8
  unfold getG
  have eh : ∀ v v', hasB (wnG (wrG S x y v) y v') (i : Int) d = hasB S (i : Int) d := fun v v' => by
    unfold hasB wnG wrG
    dsimp only
    rw [(o.sh.wr hx).1]
  rw [eh]
  split
  · show rdM (wrM S.M x y _) _ _ = _
    rw [rd_wr o.sh hx (by omega), if_neg (by omega)]
  · rfl
theorem rowG_in {S : Lg} (o : S.Sz) {m c a : Int} {i : Nat} (hi : (i : Int) ≠ m) (w : Nat) : rowG (inG S m c a).2 (i : Int) w = rowG S (i : Int) w := by
  unfold rowG
  exact List.map_congr_left fun d _ => getG_in o hi _
theorem inG_out {S : Lg} {m c a : Int} (h : ¬ (0 ≤ m ∧ m < (S.M.length : Int))) : (inG S m c a).2 = S := by
  unfold inG
  rw [if_pos]
  unfold hasB
  exact decide_eq_false (by omega)
theorem fit_le {a b : Int} (h : a ≤ b) (e1 : (fit a).2 = 0) (e2 : (fit b).2 = 0) : (fit a).1 ≤ (fit b).1 := by
  rw [fit_ok (fit_in (fun x => x e1)), fit_ok (fit_in (fun x => x e2))]; exact h
theorem fit_pos {a : Int} (h : 0 ≤ a) : 0 ≤ (fit a).1 := by
  unfold fit
  split
  · exact h
  · exact Int.le_refl 0
theorem short_pos {T : List Cur} (r : ∀ c x, curAt T c = some x → 0 ≤ x.rate) (c : Nat) (a : Int) : 0 ≤ (toldS T c a).1 := by
  unfold toldS
  split
  · rename_i ha
    refine fit_pos ?_
    have : (plainR T (c : Int) a).1 ≤ 0 := by
      unfold plainR
      cases h : curAt T (c : Int) with
      | none => exact Int.le_refl 0
      | some x =>
        dsimp only
        have hr := r _ x h
        unfold md dv
        rw [if_neg (by decide), if_neg (by decide)]
        have h1 : a * x.rate ≤ 0 := by
          have := Int.mul_nonneg (show 0 ≤ -a by omega) hr
          rw [Int.neg_mul] at this
          omega
        unfold fit
        split
        · show a * x.rate / 10000 ≤ 0
          omega
        · exact Int.le_refl 0
    omega
  · exact Int.le_refl 0
theorem chain_err {s : Int} {x : Td} {r : List Td} (h : (chainT s (x :: r)).2 = 0) : x.2 = 0 ∧ (fit (s + x.1)).2 = 0 ∧ chainT s (x :: r) = chainT (s + x.1) r := by
  rw [chainT] at h ⊢
  by_cases e1 : x.2 ≠ 0
  · rw [if_pos e1] at h; cases h
  rw [if_neg e1] at h ⊢
  by_cases e2 : (fit (s + x.1)).2 ≠ 0
  · rw [if_pos e2] at h; cases h
  rw [if_neg e2]
  exact ⟨Classical.byContradiction e1, Classical.byContradiction e2, rfl⟩
theorem rate_pos {T : List Cur} (h : tabE T = 0) : ∀ c x, curAt T c = some x → 0 ≤ x.rate := fun c x e => by
  unfold curAt at e
  split at e
  · have := inb_of (all_inb h) e
    omega
  · cases e
end Go.Proofs.Ytghdadniddoboaa

/- The law TableLess: a worth is the lesser one of two straight lines. -/

namespace Go.Proofs.Ytghdadniddoboaa
open Go Go.Sy Go.Value
set_option linter.unusedVariables false
set_option linter.unusedSimpArgs false

/-- two lines that meet at 0 -/
def Fw (m p a : Int) : Int := if a < 0 then a * p else a * m
theorem Fw_mono {m p : Int} (h0 : 0 ≤ m) (h1 : m ≤ p) {a b : Int} (h : a ≤ b) : Fw m p a ≤ Fw m p b := by
  unfold Fw
  by_cases ha : a < 0 <;> by_cases hb : b < 0
  · rw [if_pos ha, if_pos hb]; exact Int.mul_le_mul_of_nonneg_right h (by omega)
  · rw [if_pos ha, if_neg hb]
    have := Int.mul_nonneg (show 0 ≤ b by omega) h0
    have := Int.mul_nonneg (show 0 ≤ -a by omega) (show 0 ≤ p by omega)
    rw [Int.neg_mul] at this
    omega
  · omega
  · rw [if_neg ha, if_neg hb]; exact Int.mul_le_mul_of_nonneg_right h h0
theorem Fw_super {m p : Int} (h1 : m ≤ p) (a b : Int) : Fw m p a + Fw m p b ≤ Fw m p (a + b) ∧ ((decide (a < 0) == decide (b < 0)) = true → Fw m p (a + b) = Fw m p a + Fw m p b) := by
  have neg : ∀ x : Int, x ≤ 0 → x * p ≤ x * m := fun x hx => Int.mul_le_mul_of_nonpos_left hx h1
  have pos : ∀ x : Int, 0 ≤ x → x * m ≤ x * p := fun x hx => Int.mul_le_mul_of_nonneg_left h1 hx
  unfold Fw
  by_cases ha : a < 0 <;> by_cases hb : b < 0
  · rw [if_pos ha, if_pos hb, if_pos (by omega), Int.add_mul]; exact ⟨Int.le_refl _, fun _ => rfl⟩
  · have d : ¬ ((decide (a < 0) == decide (b < 0)) = true) := by simp [ha, hb]
    refine ⟨?_, fun e => (d e).elim⟩
    rw [if_pos ha, if_neg hb]
    have := neg a (by omega)
    have := pos b (by omega)
    split <;> rw [Int.add_mul] <;> omega
  · have d : ¬ ((decide (a < 0) == decide (b < 0)) = true) := by simp [ha, hb]
    refine ⟨?_, fun e => (d e).elim⟩
    rw [if_neg ha, if_pos hb]
    have := neg b (by omega)
    have := pos a (by omega)
    split <;> rw [Int.add_mul] <;> omega
  · rw [if_neg ha, if_neg hb, if_neg (by omega), Int.add_mul]; exact ⟨Int.le_refl _, fun _ => rfl⟩
theorem Fw_below {m p q : Int} (a : Int) (hm : m ≤ q) (hp : q ≤ p) : Fw m p a ≤ a * q := by
  unfold Fw
  split
  · exact Int.mul_le_mul_of_nonpos_left (by omega) hp
  · exact Int.mul_le_mul_of_nonneg_left hm (by omega)
theorem floor_sum (u v : Int) : u / 100000000 + v / 100000000 ≤ (u + v) / 100000000 ∧ (u + v) / 100000000 ≤ u / 100000000 + v / 100000000 + 1 := by omega
theorem worth_Fw {l : List Cur} {cur a : Int} {x : Cur} (e : curAt l cur = some x) : worthR l cur a = fit (Fw (x.rate * (10000 - x.cut)) (x.rate * (10000 + x.cut)) a / 100000000) := by
  unfold worthR
  rw [e]
  unfold md dv Fw partC
  dsimp only
  rw [if_neg (by decide), if_neg (by decide)]
  split <;> rfl
theorem plain_eq {l : List Cur} {cur a : Int} {x : Cur} (e : curAt l cur = some x) : plainR l cur a = fit (a * (x.rate * 10000) / 100000000) := by
  unfold plainR
  rw [e]
  unfold md dv
  dsimp only
  rw [if_neg (by decide), if_neg (by decide)]
  congr 1
  rw [← Int.mul_assoc, show (100000000 : Int) = 10000 * 10000 from rfl, Int.mul_ediv_mul_of_pos_left _ _ (by decide)]
theorem less_tail {h0 h : Heap} (lh : h0.le h) {p : Option Addr} {l : List Cur} {tn tc : Nat} (C : Curs h p l) (hn : l.length = tn) (ok : l.all inbB = true) {cur a b : Int} (ha : I64 a) (hb : I64 b) {x : Cur} (e : curAt l cur = some x)
    (m0 : 0 ≤ x.rate * (10000 - x.cut)) (mp : x.rate * (10000 - x.cut) ≤ x.rate * (10000 + x.cut)) {X Y : Int} (hX : X = Fw (x.rate * (10000 - x.cut)) (x.rate * (10000 + x.cut)) a / 100000000) (hY : Y = Fw (x.rate * (10000 - x.cut)) (x.rate * (10000 + x.cut)) b / 100000000)
    (iX : I64 X) (iY : I64 Y) :
    CallA Try.prog fn_money_Add [.int .i64 a, .int .i64 b] h fun (v : Value) (h : Heap) => ∃ (n_6 : Int), ∃ (n_7 : Int), v = tuple #[.int .i64 n_6, .int .i64 n_7] ∧
      CallA Try.prog fn_money_Add [.int .i64 X, .int .i64 Y] h fun (v : Value) (h : Heap) => ∃ (n : Int), ∃ (n_8 : Int), v = tuple #[.int .i64 n, .int .i64 n_8] ∧
        CallA Try.prog fn_table_Worth [slice p tn tc, .int .i64 cur, .int .i64 n_6] h fun (v : Value) (h : Heap) => ∃ (n_9 : Int), ∃ (n_10 : Int), v = tuple #[.int .i64 n_9, .int .i64 n_10] ∧
          Br (n_7 != 0) (Ret h (GoodT h0) (Value.bool true)) (Br (n_8 != 0) (Ret h (GoodT h0) (Value.bool true)) (Br (n_10 != 0) (Ret h (GoodT h0) (Value.bool true))
            (Br (decide (n_9 ≥ n)) (Br (!(decide (a < 0) == decide (b < 0))) (Ret h (GoodT h0) (Value.bool true)) (Br (n_9 == n) (Ret h (GoodT h0) (Value.bool true)) (Ret h (GoodT h0) (Value.bool (n_9 == IntKind.wrap .i64 (n + 1))))))
              (Ret h (GoodT h0) (Value.bool false))))) := by
  have good := goodT lh
  refine S_Add ha hb h _ ⟨_, _, rfl, S_Add iX iY h _ ⟨_, _, rfl, ?_⟩⟩
  have I0 : I64 0 := ⟨by decide, by decide⟩
  have If : ∀ z, I64 (fit z).1 := fun z => by
    rcases fit_cases z with ⟨h, e⟩ | ⟨_, e⟩ <;> rw [e]
    · exact h
    · exact I0
  refine S_Worth C hn ok (If _) ⟨_, _, rfl, ?_⟩
  rcases fit_cases (a + b) with ⟨i1, e1⟩ | ⟨_, e1⟩ <;> rw [e1]
  · refine Br.no rfl ?_
    rcases fit_cases (X + Y) with ⟨i2, e2⟩ | ⟨_, e2⟩ <;> rw [e2]
    · refine Br.no rfl ?_
      dsimp only
      rw [worth_Fw e]
      rcases fit_cases (Fw (x.rate * (10000 - x.cut)) (x.rate * (10000 + x.cut)) (a + b) / 100000000) with ⟨i3, e3⟩ | ⟨_, e3⟩ <;> rw [e3]
      · refine Br.no rfl ?_
        obtain ⟨s1, s2⟩ := Fw_super mp a b
        have f := floor_sum (Fw (x.rate * (10000 - x.cut)) (x.rate * (10000 + x.cut)) a) (Fw (x.rate * (10000 - x.cut)) (x.rate * (10000 + x.cut)) b)
        generalize Fw (x.rate * (10000 - x.cut)) (x.rate * (10000 + x.cut)) (a + b) = U at *
        generalize Fw (x.rate * (10000 - x.cut)) (x.rate * (10000 + x.cut)) a = V at *
        generalize Fw (x.rate * (10000 - x.cut)) (x.rate * (10000 + x.cut)) b = W at *
        have mono : (V + W) / 100000000 ≤ U / 100000000 := Int.ediv_le_ediv (by decide) s1
        refine Br.yes (decide_eq_true (by omega)) ?_
        cases es : (decide (a < 0) == decide (b < 0)) with
        | false => exact Br.yes rfl good
        | true =>
          refine Br.no rfl ?_
          have eU := s2 es
          subst eU
          unfold I64 at i2 i3
          refine Br.intro (fun _ => good) fun en => ?_
          simp only [beq_eq_false_iff_ne] at en
          rw [wrap_i64_id (by omega) (by omega)]
          have : ((V + W) / 100000000 == X + Y + 1) = true := by
            rw [beq_iff_eq]
            omega
          rw [this]
          exact good
      · exact Br.yes rfl good
    · exact Br.yes rfl good
  · exact Br.yes rfl good
end Go.Proofs.Ytghdadniddoboaa

/- A guard, in plain words: which tests are failed, and what each call leaves. -/
namespace Go.Proofs.Ytghdadniddoboaa
open Go Go.Sy Go.Value
set_option linter.unusedVariables false
set_option linter.unusedSimpArgs false

structure Lm where
  sh : List Int
  all : Int
def shortB (sh r : List Int) : Bool := (List.range r.length).any fun c => decide (r.getD c 0 < -(sh.getD c 0))
def passR (T : List Cur) (l : Lm) (r : List Int) : Int :=
  if (netW T r).2 ≠ 0 then 7 else if (shW T r).2 ≠ 0 then 7 else (if (netW T r).1 < 0 then 1 else 0) + (if shortB l.sh r = true then 2 else 0) + (if l.all < (shW T r).1 then 4 else 0)
def failsW (T : List Cur) (l : Lm) (row : List Int) (m : Int) (b : List Pst) : Int :=
  if badC row.length b = true then 7 else match movedW m b row with
    | none => 7
    | some r => passR T l r
theorem failsW_nil (T : List Cur) (l : Lm) (row : List Int) (m : Int) : failsW T l row m [] = passR T l row := rfl
/-! rows of the ledger -/
def rowM (M : Mx) (m w : Nat) : List Int := (List.range w).map fun c => rdM M m c
theorem rowM_len (M : Mx) (m w : Nat) : (rowM M m w).length = w := by unfold rowM; rw [List.length_map, List.length_range]
theorem rowM_get (M : Mx) (m : Nat) {w c : Nat} (h : c < w) : (rowM M m w).getD c 0 = rdM M m c := by
  unfold rowM
  rw [List.getD_eq_getElem?_getD, List.getElem?_map, List.getElem?_range h]; rfl
theorem rowG_M {S : Lg} {m w : Nat} (hm : m < S.M.length) (hw : w ≤ S.cur) : rowG S (m : Int) w = rowM S.M m w := by
  unfold rowG rowM
  refine List.map_congr_left fun c hc => ?_
  have := List.mem_range.1 hc
  unfold getG hasB
  rw [if_pos (decide_eq_true (by omega)), Int.toNat_natCast, Int.toNat_natCast]
theorem rowM_wr {M : Mx} {n w i c m : Nat} {v : Int} (sh : shM M n 8) (hi : i < n) (hc : c < w) (hw : w ≤ 8) : rowM (wrM M i c v) m w = if m = i then (rowM M m w).set c v else rowM M m w := by
  refine List.ext_getElem? fun j => ?_
  by_cases hj : j < w
  · have g : ∀ M, (rowM M m w)[j]? = some (rdM M m j) := fun M => by unfold rowM; rw [List.getElem?_map, List.getElem?_range hj]; rfl
    rw [g, rd_wr sh hi (by omega)]
    by_cases e : m = i
    · rw [if_pos e]
      by_cases e2 : j = c
      · subst e2
        rw [if_pos ⟨e, rfl⟩, List.getElem?_set_self (by rw [rowM_len]; exact hj)]
      · rw [if_neg (fun x => e2 x.2), List.getElem?_set_ne (fun x => e2 x.symm), g]
    · rw [if_neg e, if_neg (fun x => e x.1), g]
  · rw [List.getElem?_eq_none (by rw [rowM_len]; omega)]
    split
    · rw [List.getElem?_eq_none (by rw [List.length_set, rowM_len]; omega)]
    · rw [List.getElem?_eq_none (by rw [rowM_len]; omega)]
theorem moved_adds {n w : Nat} (hw : w ≤ 8) {m : Nat} (hm : m < n) : ∀ (b : List Pst) {M : Mx}, shM M n 8 → (∀ p ∈ b, 0 ≤ p.m ∧ p.m < (n : Int) ∧ 0 ≤ p.c ∧ p.c < (w : Int)) → (addsM b M).1 = 0 → movedW (m : Int) b (rowM M m w) = some (rowM (addsM b M).2 m w)
  | [], M, _, _, _ => rfl
  | p :: b, M, sh, hb, e => by
    obtain ⟨h1, h2, h3, h4⟩ := hb p (List.mem_cons_self ..)
    rw [addsM] at e ⊢
    by_cases e1 : (fit (rdM M p.m.toNat p.c.toNat + p.a)).2 ≠ 0
    · rw [if_pos e1] at e; cases e
    rw [if_neg e1] at e ⊢
    have ih := moved_adds hw hm b (sh.wr (c := p.c.toNat) (v := rdM M p.m.toNat p.c.toNat + p.a) (by omega : p.m.toNat < n)) (fun q hq => hb q (List.mem_cons_of_mem _ hq)) e
    rw [rowM_wr sh (by omega) (by omega) hw] at ih
    rw [movedW]
    by_cases e2 : p.m ≠ (m : Int)
    · rw [if_pos e2]
      rw [if_neg (by omega)] at ih
      exact ih
    · have e2 : p.m = (m : Int) := Classical.byContradiction e2
      rw [if_neg (by rw [e2]; simp)]
      rw [if_pos (by omega)] at ih
      rw [e2, Int.toNat_natCast] at e1 ih ⊢
      rw [rowM_get _ _ (by omega), if_neg e1]
      exact ih
/-! greater rows -/
def leR : List Int → List Int → Prop
  | [], [] => True
  | a :: r, b :: s => a ≤ b ∧ leR r s
  | _, _ => False
theorem leR_refl : ∀ r, leR r r
  | [] => trivial
  | a :: r => ⟨Int.le_refl _, leR_refl r⟩
theorem leR_set : ∀ (r : List Int) (c : Nat) (v : Int), r.getD c 0 ≤ v → leR r (r.set c v)
  | [], _, _, _ => trivial
  | a :: r, 0, v, h => ⟨h, leR_refl r⟩
  | a :: r, c + 1, v, h => ⟨Int.le_refl _, leR_set r c v (by simpa using h)⟩
theorem leR_len : ∀ {r s : List Int}, leR r s → r.length = s.length
  | [], [], _ => rfl
  | a :: r, b :: s, h => by rw [List.length_cons, List.length_cons, leR_len h.2]
  | [], _ :: _, h => h.elim
  | _ :: _, [], h => h.elim
theorem leR_get : ∀ {r s : List Int} (c : Nat), leR r s → r.getD c 0 ≤ s.getD c 0
  | [], [], c, _ => Int.le_refl _
  | a :: r, b :: s, 0, h => h.1
  | a :: r, b :: s, c + 1, h => by simpa using leR_get c h.2
  | [], _ :: _, _, h => h.elim
  | _ :: _, [], _, h => h.elim
theorem chain_mono {f : Nat → Int → Td} (hf : ∀ c a b, a ≤ b → (f c a).2 = 0 → (f c b).2 = 0 → (f c a).1 ≤ (f c b).1) : ∀ {r r' : List Int} (c : Nat) (s s' : Int), leR r r' → s ≤ s' → (chainT s (rowF f c r)).2 = 0 → (chainT s' (rowF f c r')).2 = 0 → (chainT s (rowF f c r)).1 ≤ (chainT s' (rowF f c r')).1
  | [], [], c, s, s', _, h, _, _ => h
  | a :: r, b :: r', c, s, s', hl, h, e1, e2 => by
    rw [rowF] at e1 e2 ⊢
    rw [rowF]
    obtain ⟨a1, _, a3⟩ := chain_err e1
    obtain ⟨b1, _, b3⟩ := chain_err e2
    rw [a3] at e1 ⊢
    rw [b3] at e2 ⊢
    have := hf c a b hl.1 a1 b1
    exact chain_mono hf (c + 1) _ _ hl.2 (by omega) e1 e2
  | [], _ :: _, _, _, _, h, _, _, _ => h.elim
  | _ :: _, [], _, _, _, h, _, _, _ => h.elim
theorem chain_anti {f : Nat → Int → Td} (hf : ∀ c a b, a ≤ b → (f c a).2 = 0 → (f c b).2 = 0 → (f c b).1 ≤ (f c a).1) : ∀ {r r' : List Int} (c : Nat) (s s' : Int), leR r r' → s' ≤ s → (chainT s (rowF f c r)).2 = 0 → (chainT s' (rowF f c r')).2 = 0 → (chainT s' (rowF f c r')).1 ≤ (chainT s (rowF f c r)).1
  | [], [], c, s, s', _, h, _, _ => h
  | a :: r, b :: r', c, s, s', hl, h, e1, e2 => by
    rw [rowF] at e1 e2 ⊢
    rw [rowF]
    obtain ⟨a1, _, a3⟩ := chain_err e1
    obtain ⟨b1, _, b3⟩ := chain_err e2
    rw [a3] at e1 ⊢
    rw [b3] at e2 ⊢
    have := hf c a b hl.1 a1 b1
    exact chain_anti hf (c + 1) _ _ hl.2 (by omega) e1 e2
  | [], _ :: _, _, _, _, h, _, _, _ => h.elim
  | _ :: _, [], _, _, _, h, _, _, _ => h.elim
theorem inb_cur {T : List Cur} (h : tabE T = 0) {c : Int} {x : Cur} (e : curAt T c = some x) : 1 ≤ x.rate ∧ x.rate ≤ 100000000 ∧ 0 ≤ x.cut ∧ x.cut ≤ 10000 := by
  unfold curAt at e
  split at e
  · exact inb_of (all_inb h) e
  · cases e
theorem toldW_mono {T : List Cur} (h : tabE T = 0) (c : Nat) (a b : Int) (hab : a ≤ b) (e1 : (toldW T c a).2 = 0) (e2 : (toldW T c b).2 = 0) : (toldW T c a).1 ≤ (toldW T c b).1 := by
  unfold toldW at *
  cases e : curAt T (c : Int) with
  | none => unfold worthR at e1; rw [e] at e1; cases e1
  | some x =>
    have ib := inb_cur h e
    rw [worth_Fw e] at e1 e2 ⊢
    rw [worth_Fw e]
    refine fit_le (Int.ediv_le_ediv (by decide) (Fw_mono (Int.mul_nonneg (by omega) (by omega)) (Int.mul_le_mul_of_nonneg_left (by omega) (by omega)) hab)) e1 e2
theorem fit2 (x : Int) : (fit x).2 = 0 ∨ (fit x).2 = 3 := by
  by_cases h : (fit x).2 ≠ 0
  · exact .inr (fit_3 h)
  · exact .inl (Classical.byContradiction h)
theorem toldS_anti {T : List Cur} (h : tabE T = 0) (c : Nat) (a b : Int) (hab : a ≤ b) (e1 : (toldS T c a).2 = 0) (e2 : (toldS T c b).2 = 0) : (toldS T c b).1 ≤ (toldS T c a).1 := by
  by_cases hb : b < 0
  · have ha : a < 0 := by omega
    unfold toldS at *
    rw [if_pos ha] at e1 ⊢
    rw [if_pos hb] at e2 ⊢
    dsimp only at *
    cases e : curAt T (c : Int) with
    | none =>
      have : ∀ a, plainR T (c : Int) a = plainR T (c : Int) 0 := fun a => by unfold plainR; rw [e]
      rw [this a, this b]
      exact Int.le_refl _
    | some x =>
      have ib := inb_cur h e
      rw [plain_eq e] at e1 e2 ⊢
      rw [plain_eq e]
      have key : ∀ u : Int, (if (fit u).2 < (fit (0 - (fit u).1)).2 then (fit (0 - (fit u).1)).2 else (fit u).2) = 0 → (fit u).2 = 0 ∧ (fit (0 - (fit u).1)).2 = 0 := fun u hu => by
        rcases fit2 u with g | g <;> rcases fit2 (0 - (fit u).1) with g2 | g2 <;> rw [g, g2] at hu <;> simp at hu <;> exact ⟨g, g2⟩
      obtain ⟨a1, a2⟩ := key _ e1
      obtain ⟨b1, b2⟩ := key _ e2
      refine fit_le ?_ b2 a2
      have := fit_le (Int.ediv_le_ediv (by decide : (0 : Int) < 100000000) (Int.mul_le_mul_of_nonneg_right hab (show 0 ≤ x.rate * 10000 by omega))) a1 b1
      omega
  · have : toldS T c b = (0, 0) := by unfold toldS; rw [if_neg hb]
    rw [this]
    exact short_pos (rate_pos h) c a
theorem netW_mono {T : List Cur} (h : tabE T = 0) {r r' : List Int} (hl : leR r r') (e1 : (netW T r).2 = 0) (e2 : (netW T r').2 = 0) : (netW T r).1 ≤ (netW T r').1 := chain_mono (toldW_mono h) 0 0 0 hl (Int.le_refl _) e1 e2
theorem shW_anti {T : List Cur} (h : tabE T = 0) {r r' : List Int} (hl : leR r r') (e1 : (shW T r).2 = 0) (e2 : (shW T r').2 = 0) : (shW T r').1 ≤ (shW T r).1 := chain_anti (toldS_anti h) 0 0 0 hl (Int.le_refl _) e1 e2
/-! tests failed, as bits -/
def bitsOf (x y z : Bool) : Int := (if x then 1 else 0) + (if y then 2 else 0) + (if z then 4 else 0)
theorem shortB_le {sh sh' r r' : List Int} (hr : leR r r') (hs : ∀ c, sh.getD c 0 ≤ sh'.getD c 0) (h : shortB sh' r' = true) : shortB sh r = true := by
  unfold shortB at *
  rw [List.any_eq_true] at *
  obtain ⟨c, h1, h2⟩ := h
  refine ⟨c, by rw [leR_len hr]; exact h1, ?_⟩
  have h2 := of_decide_eq_true h2
  have := leR_get c hr
  have := hs c
  exact decide_eq_true (by omega)
/-- what is failed, bit by bit -/
inductive SubB : Int → Int → Prop
  | top {x : Int} (h : x = 7 ∨ ∃ a b c, x = bitsOf a b c) : SubB x 7
  | bits {a b c a' b' c' : Bool} (h1 : a = true → a' = true) (h2 : b = true → b' = true) (h3 : c = true → c' = true) : SubB (bitsOf a b c) (bitsOf a' b' c')
theorem passR_bits (T : List Cur) (l : Lm) (r : List Int) : passR T l r = 7 ∨ ((netW T r).2 = 0 ∧ (shW T r).2 = 0 ∧ passR T l r = bitsOf (decide ((netW T r).1 < 0)) (shortB l.sh r) (decide (l.all < (shW T r).1))) := by
  unfold passR
  split
  · exact .inl rfl
  split
  · exact .inl rfl
  · rename_i h1 h2
    refine .inr ⟨Classical.byContradiction h1, Classical.byContradiction h2, ?_⟩
    unfold bitsOf
    simp only [decide_eq_true_eq]
theorem SubB.zero {x : Int} (h : SubB x 0) : x = 0 := by
  generalize hy : (0 : Int) = y at h
  cases h with
  | top => omega
  | bits h1 h2 h3 =>
    rename_i a b c a' b' c'
    cases a' <;> cases b' <;> cases c' <;> simp [bitsOf] at hy
    cases a <;> cases b <;> cases c <;> simp_all [bitsOf]
theorem pass_le {T : List Cur} (h : tabE T = 0) {l l' : Lm} {r r' : List Int} (hr : leR r r') (hs : ∀ c, l.sh.getD c 0 ≤ l'.sh.getD c 0) (ha : l.all ≤ l'.all) (e1 : (netW T r').2 = 0 ∨ passR T l r = 7) (e2 : (shW T r').2 = 0 ∨ passR T l r = 7) : SubB (passR T l' r') (passR T l r) := by
  have any : passR T l' r' = 7 ∨ ∃ a b c, passR T l' r' = bitsOf a b c := by
    rcases passR_bits T l' r' with e | ⟨_, _, e⟩
    · exact .inl e
    · exact .inr ⟨_, _, _, e⟩
  rcases passR_bits T l r with e | ⟨g1, g2, e⟩
  · rw [e]; exact .top any
  by_cases e7 : passR T l r = 7
  · rw [e7]; exact .top any
  have e1 := e1.resolve_right e7
  have e2 := e2.resolve_right e7
  have e' : passR T l' r' = bitsOf (decide ((netW T r').1 < 0)) (shortB l'.sh r') (decide (l'.all < (shW T r').1)) := by
    unfold passR bitsOf
    rw [if_neg (fun x => x e1), if_neg (fun x => x e2)]
    simp only [decide_eq_true_eq]
  rw [e, e']
  have n1 := netW_mono h hr g1 e1
  have n2 := shW_anti h hr g2 e2
  exact .bits (fun x => decide_eq_true (by have := of_decide_eq_true x; omega)) (shortB_le hr hs) (fun x => decide_eq_true (by have := of_decide_eq_true x; omega))
end Go.Proofs.Ytghdadniddoboaa

/- A guard in memory. -/
namespace Go.Proofs.Ytghdadniddoboaa
open Go Go.Sy Go.Value
set_option linter.unusedVariables false
set_option linter.unusedSimpArgs false

/-! limits, in memory -/
structure LmV where
  a : Option Addr
  c : Nat
  l : Lm
def lmV (x : LmV) : List Value := [.slice x.a x.l.sh.length x.c, .int .i64 x.l.all]
theorem lmV_len (x : LmV) : (lmV x).length = 2 := rfl
structure LmI (h : Heap) (x : LmV) : Prop where
  X : Ints .i64 h x.a x.l.sh
  i : ∀ y ∈ x.l.sh, I64 y
  all : I64 x.l.all
theorem LmI.le {h h' : Heap} {x : LmV} (o : LmI h x) (l : h.le h') : LmI h' x := { o with X := o.X.le l }
def lmSt : Sh := .two (.sl (.int .i64)) (.two (.int .i64) .nil)
theorem lm_of {h : Heap} {p : Option Addr} {n c : Nat} (H : (Sh.sl lmSt).Has h [.slice p n c]) : n ≤ 9223372036854775807 ∧ ∃ l : List LmV, l.length = n ∧ Arr lmV h p l ∧ ∀ x ∈ l, LmI h x := by
  obtain ⟨h1, h2, l, e, A, P⟩ := arr_of (enc := lmV) (P := LmI h) H fun vs hv => by
    obtain ⟨_, _, rfl, _, hsl, _, _, rfl, _, ⟨n1, rfl, w1⟩, hnil⟩ := hv
    cases hnil
    have hsl2 := hsl
    obtain ⟨q, k, cc, rfl, _⟩ := hsl
    obtain ⟨_, _, b, hb, Xb, Ib⟩ := Sh.Has.ints hsl2
    subst hb
    exact ⟨⟨q, cc, ⟨b, n1⟩⟩, rfl, Xb, fun y hy => I64.of_wf (Ib y hy), I64.of_wf w1⟩
  exact ⟨by omega, l, e, A, P⟩
theorem lx {h : Heap} {p : Option Addr} {l : List LmV} {N : Nat} (C : Arr lmV h p l) (hn : l.length = N) {j : Nat} {i : Int} (hi : i = (j : Int)) {x : LmV} (hx : l[j]? = some x) {Q : Option Addr → Nat → Nat → Int → Prop} (kk : Q x.a x.l.sh.length x.c x.l.all) :
    0 ≤ i ∧ i < (N : Int) ∧ withAddr p fun b o => ∃ a n m, h.cell b (o + i.toNat * 2) = some (.slice a n m) ∧ ∃ n1, h.cell b (o + i.toNat * 2 + 1) = some (.int .i64 n1) ∧ Q a n m n1 := by
  subst hi
  exact ax (w := 2) lmV_len C hn rfl hx (by decide) fun b o _ g => ⟨_, _, _, g 0 (by decide), _, g 1 (by decide), kk⟩
theorem lx0 {h : Heap} {p : Option Addr} {l : List LmV} {N : Nat} (C : Arr lmV h p l) (hn : l.length = N) {j : Nat} {i : Int} (hi : i = (j : Int)) {x : LmV} (hx : l[j]? = some x) {Q : Option Addr → Nat → Nat → Prop} (kk : Q x.a x.l.sh.length x.c) :
    0 ≤ i ∧ i < (N : Int) ∧ withAddr p fun b o => ∃ a n m, h.cell b (o + i.toNat * 2) = some (.slice a n m) ∧ Q a n m := by
  subst hi
  exact ax (w := 2) lmV_len C hn rfl hx (by decide) fun b o _ g => ⟨_, _, _, g 0 (by decide), kk⟩
/-! truths, in memory -/
def boV (l : List Bool) : List Value := l.map .bool
theorem boV_len (l : List Bool) : (boV l).length = l.length := by unfold boV; rw [List.length_map]
theorem boV_get {l : List Bool} {i : Nat} (h : i < l.length) : (boV l)[i]? = some (.bool (l.getD i false)) := by
  unfold boV
  rw [List.getElem?_map, List.getElem?_eq_getElem h, List.getD_eq_getElem?_getD, List.getElem?_eq_getElem h]; rfl
theorem setL_bo {l : List Bool} {i : Nat} {v : Bool} (h : i < l.length) : setL (boV l) i [.bool v] = boV (l.set i v) := by
  unfold boV
  rw [setL, setL, setT_eq, List.map_set]
/-! a guard, in plain words -/
structure Gu where
  S : Lg
  T : List Cur
  L : List Lm
  fl : List Bool
def Gu.row (u : Gu) (m : Nat) : List Int := rowG u.S (m : Int) u.T.length
def Gu.lim (u : Gu) (m : Nat) : Lm := u.L.getD m ⟨[], 0⟩
def Gu.fails (u : Gu) (m : Int) (b : List Pst) : Int := if 0 ≤ m ∧ m < (u.fl.length : Int) then failsW u.T (u.lim m.toNat) (u.row m.toNat) m b else 7
def Gu.flag (u : Gu) (m : Int) : Bool := decide (0 ≤ m ∧ m < (u.fl.length : Int)) && u.fl.getD m.toNat false
def Gu.setF (u : Gu) (i : Nat) (v : Bool) : Gu := { u with fl := u.fl.set i v }
/-- what always holds of it -/
structure Gu.Ok (u : Gu) : Prop where
  o : u.S.Ok
  ef : u.fl.length = u.S.M.length
  eL : u.L.length = u.S.M.length
  ec : u.S.cur = u.T.length
  tab : tabE u.T = 0
  sh : ∀ l ∈ u.L, l.sh.length = u.T.length ∧ (∀ y ∈ l.sh, 0 ≤ y ∧ I64 y) ∧ 0 ≤ l.all ∧ I64 l.all
structure GuF where
  g : Nat
  w : Nat
  lp : Option Addr
  lc : Nat
  ls : List LmV
  fb : Nat
  fc : Nat
  p : Nat
  B : Nat
  C : Nat
  sp : List Value
  f : WoF
  R : Nat → List Int
  c : Heap
  k : Heap
/-- what a call leaves as it was -/
structure GuF.Same (x y : GuF) : Prop where
  g : y.g = x.g
  p : y.p = x.p
  B : y.B = x.B
  lp : y.lp = x.lp
  ls : y.ls = x.ls
  fb : y.fb = x.fb
  c : y.c = x.c
  k : ∀ b, b ≠ x.fb → y.k b = x.k b
theorem GuF.Same.refl (x : GuF) : x.Same x := ⟨rfl, rfl, rfl, rfl, rfl, rfl, rfl, fun _ _ => rfl⟩
theorem GuF.Same.trans {x y z : GuF} (a : x.Same y) (b : y.Same z) : x.Same z := ⟨b.g.trans a.g, b.p.trans a.p, b.B.trans a.B, b.lp.trans a.lp, b.ls.trans a.ls, b.fb.trans a.fb, b.c.trans a.c, fun y hy => (b.k y (by rw [a.fb]; exact hy)).trans (a.k y hy)⟩
structure GR (h0 h : Heap) (x : GuF) (u : Gu) : Prop where
  base : h0.le x.c
  ck : x.c.le x.k
  nf : x.c x.fb = none
  ag : At x.c x.g [.pointer (some ⟨x.p, 0, none⟩), .pointer (some ⟨x.w, 0, none⟩), .slice x.lp x.ls.length x.lc, .slice (some ⟨x.fb, 0, none⟩) u.fl.length x.fc]
  al : Arr lmV x.c x.lp x.ls
  il : ∀ y ∈ x.ls, LmI x.c y
  el : x.ls.map (·.l) = u.L
  af : At x.k x.fb (boV u.fl)
  ew : x.f.b 0 = x.w
  W : LW x.k h u.S x.p x.B x.C x.sp x.f u.T u.S.M.length x.R
  ok : u.Ok
/-- and balances are told as they are -/
structure GD (h0 h : Heap) (x : GuF) (u : Gu) : Prop extends GR h0 h x u where
  told : ∀ i, i < u.S.M.length → x.R i = u.row i
theorem setN_mono {g h : Heap} {b o : Nat} {xs ws : List Value} (l : g.le h) (a : At g b xs) : (g.setN b o ws).le (h.setN b o ws) := fun x y hx => by
  obtain ⟨T, e⟩ := a
  by_cases e2 : x = b
  · subst e2
    unfold Heap.setN at *
    rw [Nat.beq_refl, e] at hx
    rw [Nat.beq_refl, l _ _ e]
    exact hx
  · rw [setN_other e2] at hx ⊢
    exact l _ _ hx
section
variable {h0 h : Heap} {S : Lg} {p B C : Nat} {sp : List Value} {f : WoF} {T : List Cur} {N : Nat} {R : Nat → List Int}
theorem LW.wr (W : LW h0 h S p B C sp f T N R) {b o : Nat} {xs ws : List Value} (a : At h0 b xs) : LW (h0.setN b o ws) (h.setN b o ws) S p B C sp f T N R := by
  have nn : ∀ {y}, h0 y = none → y ≠ b := fun e e2 => a.ne e e2.symm
  refine { W with LA := ⟨W.LA.ap.set_ne (nn W.np), W.LA.ab.set_ne (nn W.nB), W.LA.ne, W.LA.sz⟩, X := { W.X with fam := W.X.fam.mv fun x xs hx a2 => a2.set_ne ?_ }, base := setN_mono W.base a, np := by rw [setN_other (nn W.np)]; exact W.np, nB := by rw [setN_other (nn W.nB)]; exact W.nB, fr := fun i hi => by rw [setN_other (nn (W.fr i hi))]; exact W.fr i hi }
  obtain ⟨i, hi, rfl⟩ := famD_t hx
  exact nn (W.fr i hi)
end
section
variable {h0 h : Heap} {x : GuF} {u : Gu}
theorem GR.le {h' : Heap} (G : GR h0 h x u) (l : h.le h') : GR h0 h' x u := { G with W := G.W.le l }
theorem GR.back {h1 : Heap} (G : GR h1 h x u) (l : h0.le h1) : GR h0 h x u := { G with base := Heap.le_trans l G.base }
theorem GR.ch (G : GR h0 h x u) : x.c.le h := Heap.le_trans G.ck G.W.base
theorem GR.b (G : GR h0 h x u) : h0.le h := Heap.le_trans G.base G.ch
theorem GR.g (G : GR h0 h x u) : At h x.g [.pointer (some ⟨x.p, 0, none⟩), .pointer (some ⟨x.w, 0, none⟩), .slice x.lp x.ls.length x.lc, .slice (some ⟨x.fb, 0, none⟩) u.fl.length x.fc] := G.ag.le G.ch
theorem GR.f (G : GR h0 h x u) : At h x.fb (boV u.fl) := G.af.le G.W.base
theorem GR.n (G : GR h0 h x u) : u.fl.length ≤ 16 ∧ 1 ≤ u.fl.length ∧ x.ls.length = u.fl.length := by
  have := G.ok.o.n16
  have := G.ok.o.n1
  have := G.ok.ef
  have := G.ok.eL
  have e := congrArg List.length G.el
  rw [List.length_map] at e
  omega
theorem GR.lm (G : GR h0 h x u) {m : Nat} (hm : m < u.fl.length) : ∃ y, x.ls[m]? = some y ∧ y.l = u.lim m ∧ LmI h y ∧ y.l.sh.length = u.T.length ∧ (∀ z ∈ y.l.sh, 0 ≤ z ∧ I64 z) ∧ 0 ≤ y.l.all ∧ I64 y.l.all := by
  have hl : m < x.ls.length := by have := G.n; omega
  have hm2 : x.ls[m] ∈ x.ls := List.getElem_mem _
  have e : x.ls[m].l = u.lim m := by
    unfold Gu.lim
    rw [← G.el, List.getD_eq_getElem?_getD, List.getElem?_map, List.getElem?_eq_getElem hl]; rfl
  have hs := G.ok.sh x.ls[m].l (by rw [← G.el]; exact List.mem_map_of_mem hm2)
  exact ⟨x.ls[m], List.getElem?_eq_getElem hl, e, (G.il _ hm2).le G.ch, hs.1, hs.2.1, hs.2.2.1, hs.2.2.2⟩
theorem Gu.Ok.setF {u : Gu} (o : u.Ok) (i : Nat) (v : Bool) : (u.setF i v).Ok := { o with ef := by show (u.fl.set i v).length = _; rw [List.length_set]; exact o.ef }
/-- a flag, written -/
theorem GR.setF (G : GR h0 h x u) {i : Nat} {v : Bool} (hi : i < u.fl.length) : GR h0 (h.setN x.fb i [.bool v]) { x with k := x.k.setN x.fb i [.bool v] } (u.setF i v) := by
  have e : (u.setF i v).fl.length = u.fl.length := by show (u.fl.set i v).length = _; rw [List.length_set]
  refine { G with ck := le_setN G.ck G.nf, ag := ?_, af := ?_, W := G.W.wr G.af, ok := G.ok.setF i v }
  · rw [e]; exact G.ag
  · have := G.af.set (o := i) (ws := [.bool v])
    rw [setL_bo hi] at this
    exact this
/-- worths and ledger, after a call on them -/
theorem GR.turn {h' : Heap} {u' : Gu} {B C : Nat} {sp : List Value} {f : WoF} {R : Nat → List Int} (G : GR h0 h x u) (W : LW x.k h' u'.S x.p B C sp f u'.T u'.S.M.length R) (e0 : f.b 0 = x.f.b 0) (eL : u'.L = u.L) (ef : u'.fl = u.fl) (ok : u'.Ok) : GR h0 h' { x with B := B, C := C, sp := sp, f := f, R := R } u' :=
  { G with ag := by rw [ef]; exact G.ag, el := by rw [eL]; exact G.el, af := by rw [ef]; exact G.af, ew := e0.trans G.ew, W := W, ok := ok }
theorem GD.le {h' : Heap} (G : GD h0 h x u) (l : h.le h') : GD h0 h' x u := { G with toGR := G.toGR.le l }
theorem GD.back {h1 : Heap} (G : GD h1 h x u) (l : h0.le h1) : GD h0 h x u := { G with toGR := G.toGR.back l }
theorem GD.setF (G : GD h0 h x u) {i : Nat} {v : Bool} (hi : i < u.fl.length) : GD h0 (h.setN x.fb i [.bool v]) { x with k := x.k.setN x.fb i [.bool v] } (u.setF i v) := { toGR := G.toGR.setF hi, told := G.told }
end
end Go.Proofs.Ytghdadniddoboaa
