import Derived.Test.YtghdadniddoboaaGreatM10
import Derived.Test.YtghdadniddoboaaGreatM12
import Derived.Test.YtghdadniddoboaaGreatM05
/- Changed tables, and where they lie. -/
namespace Go.Proofs.YtghdadniddoboaaGreat
open Go Go.Sy Go.Value
set_option linter.unusedVariables false
set_option linter.unusedSimpArgs false

def WResO (h0 h : Heap) (p : Option Addr) (n : Nat) (e : Int) : Option (List Cur) → Prop
  | none => p = none ∧ n = 0 ∧ e = 1
  | some l => (∃ b sp, p = some ⟨b, 0, none⟩ ∧ h0 b = none ∧ At h b (curV l ++ sp)) ∧ l.length = n ∧ e = 0
section
variable {K : Value → Heap → Prop} {h h0 : Heap} {p : Option Addr} {l : List Cur} {n c : Nat}
theorem S_withO {cur : Int} {j : Nat} {x : Cur} (C : Curs h p l) (hn : l.length = n) (hs : n ≤ 1000000) (hc : cur = (j : Int)) (hj : j < n)
    (k : ∀ p' n' c' e h', h.le h' → WResO h h' p' n' e (withL l j x) → K (tuple #[slice p' n' c', .int .i64 e]) h') :
    CallA Tryz.prog fn_table_with [slice p n c, .int .i64 cur, agg #[string x.code, .int .i64 x.rate, .int .i64 x.cut]] h K := by
  subst hc
  refine F_table_with _ _ _ _ _ _ _ _ _ ?_
  unfold F_table_withT
  intro r hr
  have A := At.new h r [string x.code, .int .i64 x.rate, .int .i64 x.cut] 60
  have l1 : h.le (h.ins r (.cells [string x.code, .int .i64 x.rate, .int .i64 x.cut].toArray 60 (0, 0))) := le_ins hr
  generalize h.ins r (.cells [string x.code, .int .i64 x.rate, .int .i64 x.cut].toArray 60 (0, 0)) = h1 at *
  unfold withL at k
  refine ⟨_, A.cell rfl, _, A.cell rfl, _, A.cell rfl, S_fits fun h2 l2 => ⟨_, rfl, ?_⟩⟩
  have l12 := Heap.le_trans l1 l2
  cases ef : fitsB (j : Int) x with
  | false =>
    rw [ef, if_neg (by decide)] at k
    exact Br.yes rfl (Ret.mk (k none 0 0 1 h2 l12 ⟨rfl, rfl, rfl⟩))
  | true =>
    rw [ef, if_pos rfl] at k
    refine Br.no rfl (S_CloneC (C.le l12) hn hs fun p' c' h3 l3 own => ⟨_, _, _, rfl, ?_⟩)
    have A3 := A.le (Heap.le_trans l2 l3)
    refine ⟨_, A3.cell rfl, _, A3.cell rfl, _, A3.cell rfl, by omega, by omega, ?_⟩
    rcases own with ⟨e1, _, _⟩ | ⟨b, sp, rfl, e0, B, hcap⟩
    · have := congrArg List.length e1
      rw [curV_length, List.length_nil] at this
      omega
    · rw [Int.toNat_natCast]
      refine withAddr_intro rfl ⟨B.canSt (by rw [List.length_append, curV_length]; omega), ?_⟩
      have B' := B.set (o := 0 + j * 3) (ws := [string x.code, .int .i64 x.rate, .int .i64 x.cut])
      have e4 : setL (curV l ++ sp) (0 + j * 3) [string x.code, .int .i64 x.rate, .int .i64 x.cut] = curV (l.set j x) ++ sp := by
        rw [Nat.zero_add]; exact curV_set x sp l j (by omega)
      rw [e4] at B'
      have e5 : h b = none := none_of_le l12 e0
      exact Ret.mk (k _ _ _ _ _ (le_setN (Heap.le_trans l12 l3) e5) ⟨⟨b, sp, rfl, e5, B'⟩, by simpa using hn, rfl⟩)
theorem S_WithRateO {cur r : Int} (C : Curs h p l) (hn : l.length = n) (hs : n ≤ 1000000)
    (k : ∀ p' n' c' e h', h.le h' → WResO h h' p' n' e (wRate l cur r) → K (tuple #[slice p' n' c', .int .i64 e]) h') : CallA Tryz.prog fn_table_WithRate [slice p n c, .int .i64 cur, .int .i64 r] h K := by
  refine F_table_WithRate _ _ _ _ _ _ _ ?_
  unfold F_table_WithRateT
  unfold wRate at k
  refine S_has ⟨_, rfl, ?_⟩
  by_cases hc : 0 ≤ cur ∧ cur < (n : Int)
  · rw [decide_eq_true hc]
    obtain ⟨j, rfl⟩ := Int.eq_ofNat_of_zero_le hc.1
    have hx : l[j]? = some l[j] := List.getElem?_eq_getElem (by omega)
    rw [if_pos hc.1, Int.toNat_natCast, hx] at k
    generalize l[j] = x at *
    refine Br.no rfl (cx0 C hn rfl hx (cx2 C hn rfl hx (S_withO (x := ⟨x.code, r, x.cut⟩) C hn hs rfl (by omega) fun p' n' c' e h' l' w => ⟨_, _, _, _, rfl, Ret.mk (k _ _ _ _ _ l' w)⟩)))
  · rw [decide_eq_false hc]
    refine Br.yes rfl (Ret.mk (k none 0 0 1 h h.le_refl ?_))
    split
    · rw [List.getElem?_eq_none (by omega)]; exact ⟨rfl, rfl, rfl⟩
    · exact ⟨rfl, rfl, rfl⟩
theorem S_WithCutO {cur r : Int} (C : Curs h p l) (hn : l.length = n) (hs : n ≤ 1000000)
    (k : ∀ p' n' c' e h', h.le h' → WResO h h' p' n' e (wCut l cur r) → K (tuple #[slice p' n' c', .int .i64 e]) h') : CallA Tryz.prog fn_table_WithCut [slice p n c, .int .i64 cur, .int .i64 r] h K := by
  refine F_table_WithCut _ _ _ _ _ _ _ ?_
  unfold F_table_WithCutT
  unfold wCut at k
  refine S_has ⟨_, rfl, ?_⟩
  by_cases hc : 0 ≤ cur ∧ cur < (n : Int)
  · rw [decide_eq_true hc]
    obtain ⟨j, rfl⟩ := Int.eq_ofNat_of_zero_le hc.1
    have hx : l[j]? = some l[j] := List.getElem?_eq_getElem (by omega)
    rw [if_pos hc.1, Int.toNat_natCast, hx] at k
    generalize l[j] = x at *
    refine Br.no rfl (cx0 C hn rfl hx (cx1 C hn rfl hx (S_withO (x := ⟨x.code, x.rate, r⟩) C hn hs rfl (by omega) fun p' n' c' e h' l' w => ⟨_, _, _, _, rfl, Ret.mk (k _ _ _ _ _ l' w)⟩)))
  · rw [decide_eq_false hc]
    refine Br.yes rfl (Ret.mk (k none 0 0 1 h h.le_refl ?_))
    split
    · rw [List.getElem?_eq_none (by omega)]; exact ⟨rfl, rfl, rfl⟩
    · exact ⟨rfl, rfl, rfl⟩
end
theorem withL_some {l l' : List Cur} {j : Nat} {x y : Cur} (h : tabE l = 0) (hy : l[j]? = some y) (hc : x.code = y.code) (e : withL l j x = some l') : l' = l.set j x ∧ tabE l' = 0 := by
  unfold withL at e
  split at e
  · rename_i hf
    cases e
    exact ⟨rfl, (tab_set h hy hc).2 hf⟩
  · cases e
theorem wRate_some {l l' : List Cur} {cur r : Int} (h : tabE l = 0) (e : wRate l cur r = some l') : ∃ (j : Nat) (x : Cur), cur = (j : Int) ∧ j < l.length ∧ l' = l.set j x ∧ tabE l' = 0 := by
  unfold wRate at e
  split at e
  · rename_i h0
    cases hy : l[cur.toNat]? with
    | none => rw [hy] at e; cases e
    | some y =>
      rw [hy] at e
      obtain ⟨e1, e2⟩ := withL_some (x := ⟨y.code, r, y.cut⟩) h hy rfl e
      exact ⟨cur.toNat, _, by omega, (List.getElem?_eq_some_iff.1 hy).1, e1, e2⟩
  · cases e
theorem wCut_some {l l' : List Cur} {cur r : Int} (h : tabE l = 0) (e : wCut l cur r = some l') : ∃ (j : Nat) (x : Cur), cur = (j : Int) ∧ j < l.length ∧ l' = l.set j x ∧ tabE l' = 0 := by
  unfold wCut at e
  split at e
  · rename_i h0
    cases hy : l[cur.toNat]? with
    | none => rw [hy] at e; cases e
    | some y =>
      rw [hy] at e
      obtain ⟨e1, e2⟩ := withL_some (x := ⟨y.code, y.rate, r⟩) h hy rfl e
      exact ⟨cur.toNat, _, by omega, (List.getElem?_eq_some_iff.1 hy).1, e1, e2⟩
  · cases e
end Go.Proofs.YtghdadniddoboaaGreat

/- Worths by another table. -/
namespace Go.Proofs.YtghdadniddoboaaGreat
open Go Go.Sy Go.Value
set_option linter.unusedVariables false
set_option linter.unusedSimpArgs false

theorem acR_upd {f : WoF} {w : Nat} {L : Nat → Ac} {d j : Nat} {a : Ac} (hn : (L j).nt = a.nt) (hs : (L j).sh = a.sh) (k : Nat) : acR f w (updF L j a) d k = acR f w L d k := by
  unfold acR
  split
  · unfold acV
    by_cases e : k = j
    · subst e; rw [updF_same, hn, hs]
    · rw [updF_ne _ _ e]
  · rfl
theorem woC_upd {f : WoF} {T : List Cur} {n d : Nat} {L : Nat → Ac} {j i : Nat} {a : Ac} (hN : i = 1 → (L j).nt = a.nt ∧ (L j).sh = a.sh) (hB : i = 3 + 3 * j → (L j).row = a.row) (hW : i = 4 + 3 * j → (L j).wl = a.wl) (hH : i = 5 + 3 * j → (L j).sl = a.sl) :
    woC f T n d (updF L j a) i = woC f T n d L i := by
  rcases kinds (x := i) with rfl | rfl | rfl | ⟨k, hk⟩
  · rfl
  · rw [woC_1, woC_1]
    congr 1
    unfold List.flatMap
    congr 1
    exact List.map_congr_left fun k _ => acR_upd (hN rfl).1 (hN rfl).2 k
  · rfl
  · rcases hk with rfl | rfl | rfl
    · rw [woC_B, woC_B]
      by_cases e : k = j
      · subst e; rw [updF_same, hB rfl]
      · rw [updF_ne _ _ e]
    · rw [woC_W, woC_W]
      by_cases e : k = j
      · subst e; rw [updF_same, hW rfl]
      · rw [updF_ne _ _ e]
    · rw [woC_H, woC_H]
      by_cases e : k = j
      · subst e; rw [updF_same, hH rfl]
      · rw [updF_ne _ _ e]
theorem setL_tds : ∀ (l : List Td) (j : Nat) (x : Td) (sp : List Value), j < l.length → setL (l.flatMap tdV1 ++ sp) (j * 2) (tdV1 x) = (l.set j x).flatMap tdV1 ++ sp
  | [], j, x, sp, h => by simp at h
  | y :: l, 0, x, sp, h => rfl
  | y :: l, j + 1, x, sp, h => by
    have := setL_tds l j x sp (by simpa using h)
    rw [show (j + 1) * 2 = j * 2 + 1 + 1 by omega]
    simp only [List.flatMap_cons, List.set_cons_succ, List.append_assoc]
    rw [← this]
    rfl
section
variable {h h0 : Heap} {f : WoF} {T : List Cur} {n d : Nat} {L : Nat → Ac} {j : Nat}
theorem WoX.wlW (X : WoX h f T n d L) (hj : j < d) {c : Nat} (hc : c < T.length) (x : Td) : WoX (h.setN (f.b (4 + 3 * j)) (c * 2) (tdV1 x)) f T n d (updF L j ⟨(L j).row, (L j).wl.set c x, (L j).sl, (L j).nt, (L j).sh⟩) := by
  refine ⟨(X.fam.set (i := 4 + 3 * j) (o := c * 2) (ws := tdV1 x) (by omega)).congr fun i hi => ?_, X.dn, fun i hi => ?_⟩
  · by_cases e : i = 4 + 3 * j
    · subst e
      rw [updF_same, woC_W, woC_W, updF_same, setL_tds _ _ _ _ (by rw [(X.ln j hj).2.1]; exact hc)]
    · rw [updF_ne _ _ e]
      symm
      exact woC_upd (fun _ => ⟨rfl, rfl⟩) (fun _ => rfl) (fun e2 => (e e2).elim) (fun _ => rfl)
  · by_cases e : i = j
    · subst e; rw [updF_same]; dsimp only; rw [List.length_set]; exact X.ln i hi
    · rw [updF_ne _ _ e]; exact X.ln i hi
theorem WoX.slW (X : WoX h f T n d L) (hj : j < d) {c : Nat} (hc : c < T.length) (x : Td) : WoX (h.setN (f.b (5 + 3 * j)) (c * 2) (tdV1 x)) f T n d (updF L j ⟨(L j).row, (L j).wl, (L j).sl.set c x, (L j).nt, (L j).sh⟩) := by
  refine ⟨(X.fam.set (i := 5 + 3 * j) (o := c * 2) (ws := tdV1 x) (by omega)).congr fun i hi => ?_, X.dn, fun i hi => ?_⟩
  · by_cases e : i = 5 + 3 * j
    · subst e
      rw [updF_same, woC_H, woC_H, updF_same, setL_tds _ _ _ _ (by rw [(X.ln j hj).2.2]; exact hc)]
    · rw [updF_ne _ _ e]
      symm
      exact woC_upd (fun _ => ⟨rfl, rfl⟩) (fun _ => rfl) (fun _ => rfl) (fun e2 => (e e2).elim)
  · by_cases e : i = j
    · subst e; rw [updF_same]; dsimp only; rw [List.length_set]; exact X.ln i hi
    · rw [updF_ne _ _ e]; exact X.ln i hi
theorem WoX.ntW (X : WoX h f T n d L) (hj : j < d) (x : Td) : WoX (h.setN (f.b 1) (j * 7 + 3) [.int .i64 x.1, .int .i64 x.2]) f T n d (updF L j ⟨(L j).row, (L j).wl, (L j).sl, x, (L j).sh⟩) := by
  have hdn := X.dn
  refine ⟨(X.fam.set (i := 1) (o := j * 7 + 3) (ws := [.int .i64 x.1, .int .i64 x.2]) (by omega)).congr fun i hi => ?_, X.dn, fun i hi => ?_⟩
  · by_cases e : i = 1
    · subst e
      rw [updF_same, woC_1, woC_1, setL_rows (acR_len f T.length L d) (by simp) n j _ (by omega)]
      congr 1
      unfold List.flatMap
      congr 1
      refine List.map_congr_left fun k hk => ?_
      by_cases e : k = j
      · subst e
        rw [updF_same]
        unfold acR
        rw [if_pos hj, if_pos hj]
        unfold acV
        rw [updF_same]
        rfl
      · rw [updF_ne _ _ e]
        unfold acR acV
        rw [updF_ne _ _ e]
    · rw [updF_ne _ _ e]
      symm
      exact woC_upd (fun e2 => (e e2).elim) (fun _ => rfl) (fun _ => rfl) (fun _ => rfl)
  · by_cases e : i = j
    · subst e; rw [updF_same]; exact X.ln i hi
    · rw [updF_ne _ _ e]; exact X.ln i hi
theorem WoX.shW (X : WoX h f T n d L) (hj : j < d) (x : Td) : WoX (h.setN (f.b 1) (j * 7 + 5) [.int .i64 x.1, .int .i64 x.2]) f T n d (updF L j ⟨(L j).row, (L j).wl, (L j).sl, (L j).nt, x⟩) := by
  have hdn := X.dn
  refine ⟨(X.fam.set (i := 1) (o := j * 7 + 5) (ws := [.int .i64 x.1, .int .i64 x.2]) (by omega)).congr fun i hi => ?_, X.dn, fun i hi => ?_⟩
  · by_cases e : i = 1
    · subst e
      rw [updF_same, woC_1, woC_1, setL_rows (acR_len f T.length L d) (by simp) n j _ (by omega)]
      congr 1
      unfold List.flatMap
      congr 1
      refine List.map_congr_left fun k hk => ?_
      by_cases e : k = j
      · subst e
        rw [updF_same]
        unfold acR
        rw [if_pos hj, if_pos hj]
        unfold acV
        rw [updF_same]
        rfl
      · rw [updF_ne _ _ e]
        unfold acR acV
        rw [updF_ne _ _ e]
    · rw [updF_ne _ _ e]
      symm
      exact woC_upd (fun e2 => (e e2).elim) (fun _ => rfl) (fun _ => rfl) (fun _ => rfl)
  · by_cases e : i = j
    · subst e; rw [updF_same]; exact X.ln i hi
    · rw [updF_ne _ _ e]; exact X.ln i hi
theorem updF_upd {α : Type} (g : Nat → α) (j : Nat) (x y : α) : updF (updF g j x) j y = updF g j y := by
  funext i
  by_cases e : i = j
  · subst e; rw [updF_same, updF_same]
  · rw [updF_ne _ _ e, updF_ne _ _ e, updF_ne _ _ e]
theorem WoX.tab (X : WoX h f T n d L) {T' : List Cur} (hT : T'.length = T.length) {tb c : Nat} {sq : List Value} (a : At h tb (curV T' ++ sq)) (z : famD (3 + 3 * d) f.b tb = false) :
    WoX (h.setN (f.b 0) 0 [slice (some ⟨tb, 0, none⟩) T'.length c]) ⟨updF f.b 2 tb, updF f.q 2 c, updF f.sp 2 sq, f.lp⟩ T' n d L := by
  have F := (X.fam.swap (i := 2) z a).set (i := 0) (o := 0) (ws := [slice (some ⟨tb, 0, none⟩) T'.length c]) (by omega)
  rw [updF_ne _ _ (show (0 : Nat) ≠ 2 by decide), updF_ne _ _ (show (0 : Nat) ≠ 2 by decide)] at F
  refine ⟨F.congr fun i hi => ?_, X.dn, fun i hi => by rw [hT]; exact X.ln i hi⟩
  rcases kinds (x := i) with rfl | rfl | rfl | ⟨k, hk⟩
  · rw [updF_same, woC_0, woC_0]
    rfl
  · rw [updF_ne _ _ (by decide), updF_ne _ _ (by decide), woC_1, woC_1]
    have e : acR ⟨updF f.b 2 tb, updF f.q 2 c, updF f.sp 2 sq, f.lp⟩ T'.length L d = acR f T.length L d := by
      funext k
      unfold acR acV
      dsimp only
      rw [updF_ne _ _ (by omega), updF_ne _ _ (by omega), updF_ne _ _ (by omega), updF_ne _ _ (by omega), updF_ne _ _ (by omega), updF_ne _ _ (by omega), hT]
    rw [e]; rfl
  · rw [updF_ne _ _ (by decide), updF_same, woC_2]
    rfl
  · rcases hk with rfl | rfl | rfl
    · rw [updF_ne _ _ (by omega), updF_ne _ _ (by omega), woC_B, woC_B]
      dsimp only
      rw [updF_ne _ _ (by omega)]
    · rw [updF_ne _ _ (by omega), updF_ne _ _ (by omega), woC_W, woC_W]
      dsimp only
      rw [updF_ne _ _ (by omega)]
    · rw [updF_ne _ _ (by omega), updF_ne _ _ (by omega), woC_H, woC_H]
      dsimp only
      rw [updF_ne _ _ (by omega)]
end
end Go.Proofs.YtghdadniddoboaaGreat

/- Rates and haircuts are set. -/
namespace Go.Proofs.YtghdadniddoboaaGreat
open Go Go.Sy Go.Value
set_option linter.unusedVariables false
set_option linter.unusedSimpArgs false

theorem toldW_setL {T : List Cur} {c : Nat} {x : Cur} (row : List Int) (hc : c < row.length) : (rowF (toldW T) 0 row).set c (toldW (T.set c x) c (row.getD c 0)) = rowF (toldW (T.set c x)) 0 row := by
  have := rowF_set (f := toldW T) (g := toldW (T.set c x)) (k := c) row 0 (fun j b e => (toldW_set e b).symm) (by omega) (by omega)
  rw [Nat.sub_zero] at this
  exact this.symm
theorem toldS_setL {T : List Cur} {c : Nat} {x : Cur} (row : List Int) (hc : c < row.length) : (rowF (toldS T) 0 row).set c (toldS (T.set c x) c (row.getD c 0)) = rowF (toldS (T.set c x)) 0 row := by
  have := rowF_set (f := toldS T) (g := toldS (T.set c x)) (k := c) row 0 (fun j b e => (toldS_set e b).symm) (by omega) (by omega)
  rw [Nat.sub_zero] at this
  exact this.symm
theorem rowF_I {g : Nat → Int → Td} (hg : ∀ c b, I64 (g c b).1) (row : List Int) : ∀ x ∈ rowF g 0 row, I64 x.1 := fun x hx => by
  obtain ⟨i, hi, e⟩ := List.mem_iff_getElem.1 hx
  have := rowF_get g row 0 i (by rw [rowF_len] at hi; exact hi)
  rw [List.getElem?_eq_getElem hi, e] at this
  cases this
  exact hg _ _
def mixL (T T' : List Cur) (B : Nat → List Int) (j i : Nat) : Ac := if i < j then acOf T' (B i) else acOf T (B i)
theorem mixL_succ (T T' : List Cur) (B : Nat → List Int) (j : Nat) : updF (mixL T T' B j) j (acOf T' (B j)) = mixL T T' B (j + 1) := by
  funext i
  unfold mixL
  by_cases e : i = j
  · subst e; rw [updF_same, if_pos (by omega)]
  · rw [updF_ne _ _ e]
    by_cases e2 : i < j
    · rw [if_pos e2, if_pos (by omega)]
    · rw [if_neg e2, if_neg (by omega)]
section
variable {h0 : Heap} {K : Value → Heap → Prop} {T : List Cur} {n : Nat} {B : Nat → List Int} {c : Nat} {x : Cur}
theorem turn_loop {f : WoF} (t8 : T.length ≤ 8) (ok : (T.set c x).all inbB = true) (hc : c < T.length) (hl : ∀ i, i < n → (B i).length = T.length) (hI : ∀ i, i < n → ∀ y ∈ B i, I64 y) (fr : ∀ i, i < 3 + 3 * n → h0 (f.b i) = none) (hn : n ≤ 1000000)
    (k : ∀ h', h0.le h' → WoX h' f (T.set c x) n n (fun i => acOf (T.set c x) (B i)) → K (tuple #[]) h') :
    ∀ (m j : Nat) (h : Heap), m + j = n → h0.le h → WoX h f (T.set c x) n n (mixL T (T.set c x) B j) → L_pworth_Worths_turn_0 (some ⟨f.b 0, 0, none⟩) (c : Int) (n : Int) (j : Int) h K := by
  have hTl : (T.set c x).length = T.length := List.length_set
  intro m
  induction m with
  | zero =>
    intro j h hj l0 X
    refine L_pworth_Worths_turn_0r _ _ _ _ _ _ ?_
    unfold L_pworth_Worths_turn_0T
    obtain rfl : j = n := by omega
    have e : WoX h f (T.set c x) j j (fun i => acOf (T.set c x) (B i)) := ⟨X.fam.congr fun i hi => ?_, X.dn, fun i hi => ?_⟩
    · exact Br.no (by simp) (Ret.mk (k h l0 e))
    · rcases kinds (x := i) with rfl | rfl | rfl | ⟨q, hq⟩
      · rfl
      · rw [woC_1, woC_1]
        congr 1
        unfold List.flatMap
        congr 1
        refine List.map_congr_left fun q _ => ?_
        unfold acR
        split
        · rename_i hq
          unfold acV mixL
          rw [if_pos hq]
        · rfl
      · rfl
      · rcases hq with rfl | rfl | rfl
        · rw [woC_B, woC_B]; unfold mixL; rw [if_pos (by omega)]
        · rw [woC_W, woC_W]; unfold mixL; rw [if_pos (by omega)]
        · rw [woC_H, woC_H]; unfold mixL; rw [if_pos (by omega)]
    · have := X.ln i hi
      unfold mixL at this
      rw [if_pos hi] at this
      exact this
  | succ m ih =>
    intro j h hj l0 X
    refine L_pworth_Worths_turn_0r _ _ _ _ _ _ ?_
    unfold L_pworth_Worths_turn_0T
    have hjn : j < n := by omega
    have hlj := hl j hjn
    have hIj := hI j hjn
    have hmix := mixL_succ T (T.set c x) B j
    have hLj : mixL T (T.set c x) B j j = acOf T (B j) := if_neg (by omega)
    generalize mixL T (T.set c x) B j = L at *
    have hcr : c < (B j).length := by omega
    have hcT : c < (T.set c x).length := by omega
    have hbal : h.cell (f.b (3 + 3 * j)) (0 + (c : Int).toNat) = some (.int .i64 ((B j).getD c 0)) := (X.row hjn).cell (by
      rw [Int.toNat_natCast, Nat.zero_add, hLj, List.getElem?_append_left (by rw [intsV_length]; exact hcr), intsV_map, List.getElem?_map]
      show ((B j)[c]?).map _ = _
      rw [List.getElem?_eq_getElem hcr, List.getD_eq_getElem?_getD, List.getElem?_eq_getElem hcr]; rfl)
    have hbI : I64 ((B j).getD c 0) := by rw [List.getD_eq_getElem?_getD, List.getElem?_eq_getElem hcr]; exact hIj _ (List.getElem_mem _)
    have z : ∀ o, o < 7 → h.cell (f.b 1) (0 + (j : Int).toNat * 7 + o) = (acV f (T.set c x).length L j)[o]? := fun o ho => by rw [Int.toNat_natCast, Nat.zero_add]; exact X.ac hjn ho
    refine Br.yes (by simp; omega) (withAddr_intro rfl ⟨_, _, _, X.w.cell rfl, by omega, by omega, withAddr_intro rfl ⟨_, _, _, z 1 (by decide), _, _, _, z 2 (by decide), _, _, _, z 0 (by decide), by omega, by omega, withAddr_intro rfl ⟨_, hbal, S_Wone X.t rfl ok X.w (cur := c) rfl hbI fun h1 l1 => ⟨_, _, _, _, rfl, .inl l1, by omega, by omega, withAddr_intro rfl ?_⟩⟩⟩⟩)
    have X1 := X.le l1
    rw [Int.toNat_natCast, Int.toNat_natCast, Nat.zero_add, Nat.zero_add]
    have lnj := X.ln j hjn
    have c1 : h1.canSt (f.b (4 + 3 * j)) (c * 2) 2 := (X1.wl hjn).canSt (by rw [List.length_append, arr_len tdV1_len]; omega)
    have X2 := X1.wlW hjn hcT (toldW (T.set c x) c ((B j).getD c 0))
    refine ⟨c1, by omega, by omega, withAddr_intro rfl ?_⟩
    rw [Nat.zero_add]
    have l2 : h0.le (h1.setN (f.b (4 + 3 * j)) (c * 2) (tdV1 (toldW (T.set c x) c ((B j).getD c 0)))) := le_setN (Heap.le_trans l0 l1) (fr _ (by omega))
    have c2 : (h1.setN (f.b (4 + 3 * j)) (c * 2) (tdV1 (toldW (T.set c x) c ((B j).getD c 0)))).canSt (f.b (5 + 3 * j)) (c * 2) 2 := (X2.sl hjn).canSt (by rw [List.length_append, arr_len tdV1_len, (X2.ln j hjn).2.2]; omega)
    have X3 := X2.slW hjn hcT (toldS (T.set c x) c ((B j).getD c 0))
    have l3 := le_setN (o := c * 2) (ws := tdV1 (toldS (T.set c x) c ((B j).getD c 0))) l2 (fr (5 + 3 * j) (by omega))
    rw [updF_upd, updF_same, hLj] at X3
    have e3 : (⟨(acOf T (B j)).row, (acOf T (B j)).wl.set c (toldW (T.set c x) c ((B j).getD c 0)), (acOf T (B j)).sl.set c (toldS (T.set c x) c ((B j).getD c 0)), (acOf T (B j)).nt, (acOf T (B j)).sh⟩ : Ac) = ⟨B j, rowF (toldW (T.set c x)) 0 (B j), rowF (toldS (T.set c x)) 0 (B j), netW T (B j), shW T (B j)⟩ := by
      rw [← toldW_setL (T := T) (x := x) (B j) hcr, ← toldS_setL (T := T) (x := x) (B j) hcr]; rfl
    dsimp only at X3 e3
    rw [e3] at X3
    refine ⟨c2, ?_⟩
    have hH : (h1.setN (f.b (4 + 3 * j)) (c * 2) [int .i64 (toldW (T.set c x) c ((B j).getD c 0)).1, int .i64 (toldW (T.set c x) c ((B j).getD c 0)).2]).setN (f.b (5 + 3 * j)) (c * 2) [int .i64 (toldS (T.set c x) c ((B j).getD c 0)).1, int .i64 (toldS (T.set c x) c ((B j).getD c 0)).2] = (h1.setN (f.b (4 + 3 * j)) (c * 2) (tdV1 (toldW (T.set c x) c ((B j).getD c 0)))).setN (f.b (5 + 3 * j)) (c * 2) (tdV1 (toldS (T.set c x) c ((B j).getD c 0))) := rfl
    rw [hH]
    generalize (h1.setN (f.b (4 + 3 * j)) (c * 2) (tdV1 (toldW (T.set c x) c ((B j).getD c 0)))).setN (f.b (5 + 3 * j)) (c * 2) (tdV1 (toldS (T.set c x) c ((B j).getD c 0))) = H3 at *
    have z3 : ∀ o, o < 7 → H3.cell (f.b 1) (j * 7 + o) = _ := fun o ho => X3.ac hjn ho
    have W3 : At H3 (f.b (4 + 3 * j)) ((rowF (toldW (T.set c x)) 0 (B j)).flatMap tdV1 ++ f.sp (4 + 3 * j)) := by
      have := X3.wl hjn
      rw [updF_same] at this
      exact this
    have S3 : At H3 (f.b (5 + 3 * j)) ((rowF (toldS (T.set c x)) 0 (B j)).flatMap tdV1 ++ f.sp (5 + 3 * j)) := by
      have := X3.sl hjn
      rw [updF_same] at this
      exact this
    refine ⟨_, _, _, z3 1 (by decide), _, _, _, z3 2 (by decide), S_chain (l := rowF (toldW (T.set c x)) 0 (B j)) W3.toRd (by rw [rowF_len, hlj, hTl]) (by omega) (rowF_I (fun c b => worthR_I _ _ _) _) fun h4 l4 => ⟨_, _, rfl, .inl l4, S_chain (l := rowF (toldS (T.set c x)) 0 (B j)) (S3.le l4).toRd (by rw [rowF_len, hlj, hTl]) (by omega) (rowF_I (fun c b => toldS_I _ _ _) _) fun h5 l5 => ⟨_, _, rfl, ?_⟩⟩⟩
    have X4 := (X3.le (Heap.le_trans l4 l5)).ntW hjn (netW (T.set c x) (B j))
    rw [updF_upd, updF_same] at X4
    have X5 := X4.shW hjn (shW (T.set c x) (B j))
    rw [updF_upd, updF_same] at X5
    have hlen : ((List.range n).flatMap (acR f (T.set c x).length L n)).length = n * 7 := flat_len' (acR_len _ _ _ _) n
    have cs : ∀ g : Heap, ∀ L', WoX g f (T.set c x) n n L' → ∀ o, o + 2 ≤ 7 → g.canSt (f.b 1) (j * 7 + o) 2 := fun g L' X o ho => X.a.canSt (by rw [List.length_append, flat_len' (acR_len _ _ _ _)]; omega)
    refine ⟨cs _ _ (X3.le (Heap.le_trans l4 l5)) 3 (by decide), cs _ _ X4 5 (by decide), ?_⟩
    rw [w1 (by omega)]
    refine ih (j + 1) _ (by omega) (le_setN (le_setN (Heap.le_trans l3 (Heap.le_trans l4 l5)) (fr 1 (by omega))) (fr 1 (by omega))) ?_
    rw [← hmix]
    exact X5
theorem S_turn {h : Heap} {f : WoF} {tb cc : Nat} {sq : List Value} (l0 : h0.le h) (t8 : T.length ≤ 8) (ok : (T.set c x).all inbB = true) (hc : c < T.length) (hl : ∀ i, i < n → (B i).length = T.length) (hI : ∀ i, i < n → ∀ y ∈ B i, I64 y) (fr : ∀ i, i < 3 + 3 * n → h0 (f.b i) = none) (hn : n ≤ 1000000)
    (X : WoX h f T n n (fun i => acOf T (B i))) (a : At h tb (curV (T.set c x) ++ sq)) (z : famD (3 + 3 * n) f.b tb = false) (zt : h0 tb = none)
    (k : ∀ h' f', h0.le h' → f'.b 0 = f.b 0 → f'.lp = f.lp → (∀ i, i < 3 + 3 * n → h0 (f'.b i) = none) → WoX h' f' (T.set c x) n n (fun i => acOf (T.set c x) (B i)) → K (tuple #[]) h') :
    CallA Tryz.prog fn_pworth_Worths_turn [pointer (some ⟨f.b 0, 0, none⟩), slice (some ⟨tb, 0, none⟩) T.length cc, .int .i64 (c : Int)] h K := by
  have hTl : (T.set c x).length = T.length := List.length_set
  refine F_pworth_Worths_turn _ _ _ _ _ _ _ ?_
  unfold F_pworth_Worths_turnT
  have X1 := X.tab hTl (c := cc) a z
  rw [hTl] at X1
  have fr' : ∀ i, i < 3 + 3 * n → h0 ((⟨updF f.b 2 tb, updF f.q 2 cc, updF f.sp 2 sq, f.lp⟩ : WoF).b i) = none := fun i hi => by
    show h0 (updF f.b 2 tb i) = none
    by_cases e : i = 2
    · subst e; rw [updF_same]; exact zt
    · rw [updF_ne _ _ e]; exact fr i hi
  refine withAddr_intro rfl ⟨X.w.canSt (by simp), withAddr_intro rfl ⟨_, _, _, X1.w.cell rfl, ?_⟩⟩
  have e0 : (⟨updF f.b 2 tb, updF f.q 2 cc, updF f.sp 2 sq, f.lp⟩ : WoF).b 0 = f.b 0 := updF_ne f.b tb (show (0 : Nat) ≠ 2 by decide)
  have := turn_loop (f := ⟨updF f.b 2 tb, updF f.q 2 cc, updF f.sp 2 sq, f.lp⟩) t8 ok hc hl hI fr' hn (fun h' l' X' => k h' _ l' e0 rfl fr' X') n 0 _ rfl (le_setN l0 (fr 0 (by omega))) (by
    have e : mixL T (T.set c x) B 0 = fun i => acOf T (B i) := by funext i; exact if_neg (by omega)
    rw [e]; exact X1)
  exact this
end
def turnT (T : List Cur) : Option (List Cur) → List Cur
  | none => T
  | some T' => T'
def turnE : Option (List Cur) → Int
  | none => 1
  | some _ => 0
section
variable {h0 h : Heap} {K : Value → Heap → Prop} {T : List Cur} {n : Nat} {B : Nat → List Int} {f : WoF}
theorem S_wRate (l0 : h0.le h) (hT : tabE T = 0) (hl : ∀ i, i < n → (B i).length = T.length) (hI : ∀ i, i < n → ∀ y ∈ B i, I64 y) (fr : ∀ i, i < 3 + 3 * n → h0 (f.b i) = none) (hn : n ≤ 1000000) (X : WoX h f T n n (fun i => acOf T (B i))) {cur r : Int}
    (k : ∀ h' f', h0.le h' → f'.b 0 = f.b 0 → f'.lp = f.lp → (∀ i, i < 3 + 3 * n → h0 (f'.b i) = none) → WoX h' f' (turnT T (wRate T cur r)) n n (fun i => acOf (turnT T (wRate T cur r)) (B i)) → K (.int .i64 (turnE (wRate T cur r))) h') :
    CallA Tryz.prog fn_pworth_Worths_Rate [pointer (some ⟨f.b 0, 0, none⟩), .int .i64 cur, .int .i64 r] h K := by
  obtain ⟨_, t8, _⟩ := tab_parts hT
  refine F_pworth_Worths_Rate _ _ _ _ _ ?_
  unfold F_pworth_Worths_RateT
  refine withAddr_intro rfl ⟨_, _, _, X.w.cell rfl, S_WithRateO X.t rfl (by omega) fun p' n' c' e h1 l1 w => ⟨_, _, _, _, rfl, ?_⟩⟩
  cases hw : wRate T cur r with
  | none =>
    rw [hw] at k w
    obtain ⟨rfl, rfl, rfl⟩ := w
    exact Br.no rfl (Ret.mk (k h1 f (Heap.le_trans l0 l1) rfl rfl fr (X.le l1)))
  | some T' =>
    rw [hw] at k w
    obtain ⟨⟨tb, sq, rfl, zt, a⟩, rfl, rfl⟩ := w
    obtain ⟨j, x, rfl, hj, rfl, hT'⟩ := wRate_some hT hw
    rw [List.length_set]
    exact Br.yes rfl (S_turn (Heap.le_trans l0 l1) t8 (all_inb hT') hj hl hI fr hn (X.le l1) a (X.fam.fresh zt) (none_of_le l0 zt) fun h' f' l' e1 e2 fr' X' => ⟨rfl, Ret.mk (k h' f' l' e1 e2 fr' X')⟩)
theorem S_wCut (l0 : h0.le h) (hT : tabE T = 0) (hl : ∀ i, i < n → (B i).length = T.length) (hI : ∀ i, i < n → ∀ y ∈ B i, I64 y) (fr : ∀ i, i < 3 + 3 * n → h0 (f.b i) = none) (hn : n ≤ 1000000) (X : WoX h f T n n (fun i => acOf T (B i))) {cur r : Int}
    (k : ∀ h' f', h0.le h' → f'.b 0 = f.b 0 → f'.lp = f.lp → (∀ i, i < 3 + 3 * n → h0 (f'.b i) = none) → WoX h' f' (turnT T (wCut T cur r)) n n (fun i => acOf (turnT T (wCut T cur r)) (B i)) → K (.int .i64 (turnE (wCut T cur r))) h') :
    CallA Tryz.prog fn_pworth_Worths_Cut [pointer (some ⟨f.b 0, 0, none⟩), .int .i64 cur, .int .i64 r] h K := by
  obtain ⟨_, t8, _⟩ := tab_parts hT
  refine F_pworth_Worths_Cut _ _ _ _ _ ?_
  unfold F_pworth_Worths_CutT
  refine withAddr_intro rfl ⟨_, _, _, X.w.cell rfl, S_WithCutO X.t rfl (by omega) fun p' n' c' e h1 l1 w => ⟨_, _, _, _, rfl, ?_⟩⟩
  cases hw : wCut T cur r with
  | none =>
    rw [hw] at k w
    obtain ⟨rfl, rfl, rfl⟩ := w
    exact Br.no rfl (Ret.mk (k h1 f (Heap.le_trans l0 l1) rfl rfl fr (X.le l1)))
  | some T' =>
    rw [hw] at k w
    obtain ⟨⟨tb, sq, rfl, zt, a⟩, rfl, rfl⟩ := w
    obtain ⟨j, x, rfl, hj, rfl, hT'⟩ := wCut_some hT hw
    rw [List.length_set]
    exact Br.yes rfl (S_turn (Heap.le_trans l0 l1) t8 (all_inb hT') hj hl hI fr hn (X.le l1) a (X.fam.fresh zt) (none_of_le l0 zt) fun h' f' l' e1 e2 fr' X' => ⟨rfl, Ret.mk (k h' f' l' e1 e2 fr' X')⟩)
end
end Go.Proofs.YtghdadniddoboaaGreat

/- What a member's net worth and shortage would be. -/
namespace Go.Proofs.YtghdadniddoboaaGreat
open Go Go.Sy Go.Value
set_option linter.unusedVariables false
set_option linter.unusedSimpArgs false

section
variable {h0 h : Heap} {K : Value → Heap → Prop}
theorem S_CloneW {p : Option Addr} {l : List Int} {n c : Nat} (I : Ints .i64 h p l) (hn : l.length = n) (hs : n ≤ 1000000) (h1 : 1 ≤ n) (k : ∀ r sp c' h', h.le h' → h r = none → At h' r (intsV .i64 l ++ sp) → K (slice (some ⟨r, 0, none⟩) n c') h') :
    CallA Tryz.prog fn_slices_Clone_int64_int64 [slice p n c] h K := by
  refine F_slices_Clone_int64_int64 _ _ _ _ _ ?_
  unfold F_slices_Clone_int64_int64T
  cases p with
  | none =>
    have : l = [] := by
      rcases I with e | ⟨b, o, e, _⟩
      · exact List.length_eq_zero_iff.1 (by rw [← intsV_length .i64, e]; rfl)
      · cases e
    subst this
    subst hn
    simp at h1
  | some a =>
    refine Br.no rfl ?_
    intro r hr
    refine (own_new (T := 2) (z := [int .i64 0]) hr).push (by decide) (le_ins hr) (by omega) (by rw [intsV_length, hn]; simp) (I.le (le_ins hr)) (allCells_ints _ _) (by simp) ?_
    intro p' c' h' l' w' _ _
    rw [Nat.zero_add]
    rw [List.nil_append] at w'
    rcases w' with ⟨e, _, _⟩ | ⟨s, sp, rfl, hs0, A, _⟩
    · have := congrArg List.length e
      rw [intsV_length, List.length_nil] at this
      omega
    · exact Ret.mk (k s sp c' h' l' hs0 A)
theorem S_EqualI {p q : Option Addr} {l r : List Int} {n c d : Nat} (I : Ints .i64 h p l) (J : Ints .i64 h q r) (hl : l.length = n) (hr : r.length = n) (hs : n ≤ 1000000) (k : K (.bool (decide (l = r))) h) : CallA Tryz.prog fn_slices_Equal_int64_int64 [slice p n c, slice q n d] h K := by
  refine F_slices_Equal_int64_int64 _ _ _ _ _ _ _ _ ?_
  unfold F_slices_Equal_int64_int64T
  refine Br.no (by simp) ?_
  have loop : ∀ (m j : Nat), m + j = n → decide (l = r) = decide (l.drop j = r.drop j) → L_slices_Equal_int64_int64_0 p n c q n d (n : Int) (j : Int) h K := by
    intro m
    induction m with
    | zero =>
      intro j hj e
      refine L_slices_Equal_int64_int64_0r _ _ _ _ _ _ _ _ _ _ ?_
      unfold L_slices_Equal_int64_int64_0T
      rw [List.drop_eq_nil_of_le (by omega), List.drop_eq_nil_of_le (by omega)] at e
      rw [e] at k
      exact Br.no (by simp; omega) (Ret.mk k)
    | succ m ih =>
      intro j hj e
      refine L_slices_Equal_int64_int64_0r _ _ _ _ _ _ _ _ _ _ ?_
      unfold L_slices_Equal_int64_int64_0T
      have hx : l[j]? = some l[j] := List.getElem?_eq_getElem (by omega)
      have hy : r[j]? = some r[j] := List.getElem?_eq_getElem (by omega)
      rw [List.drop_eq_getElem_cons (by omega : j < l.length), List.drop_eq_getElem_cons (by omega : j < r.length)] at e
      generalize l[j] = x at *
      generalize r[j] = y at *
      refine Br.yes (by simp; omega) (ix I hl rfl hx (ix J hr rfl hy (Br.intro (fun g => ?_) fun g => ?_)))
      · have g : x ≠ y := by simpa using g
        have e5 : decide (x :: l.drop (j + 1) = y :: r.drop (j + 1)) = false := decide_eq_false (fun e2 => g (by injection e2))
        rw [e5] at e
        rw [e] at k
        exact Ret.mk k
      · have g : x = y := by simpa using g
        subst g
        rw [w1 (by omega)]
        refine ih (j + 1) (by omega) ?_
        rw [e]
        exact decide_eq_decide.2 ⟨fun e2 => by injection e2, fun e2 => by rw [e2]⟩
  exact loop n 0 rfl rfl
section
variable {w : Nat} {a : Option Addr} {n c : Nat} {ws : List Value} {c0 : Nat}
theorem S_If1 {x : Pst} (A0 : At h c0 [pointer (some ⟨w, 0, none⟩)]) (Aw : At h w (.slice a n c :: ws)) (k : ∀ h', h.le h' → K (.bool (decide (x.c < 0) || decide (x.c ≥ (n : Int)))) h') :
    CallA Tryz.prog fn_pworth_Worths_If_1 [agg #[int .i64 x.m, int .i64 x.c, int .i64 x.a], pointer (some ⟨c0, 0, none⟩)] h K := by
  refine F_pworth_Worths_If_1 _ _ _ _ _ _ ?_
  unfold F_pworth_Worths_If_1T
  refine newB_at fun r h1 hr l1 A => ⟨_, A.cell rfl, Br.intro (fun g => ?_) fun g => ⟨_, A.cell rfl, _, (A0.le l1).cell rfl, withAddr_intro rfl ⟨_, _, _, (Aw.le l1).cell rfl, Ret.mk ?_⟩⟩⟩
  · rw [g, Bool.true_or] at k; exact Ret.mk (k h1 l1)
  · rw [g, Bool.false_or] at k; exact k h1 l1
variable {q : Option Addr} {b : List Pst} {bn qc : Nat}
theorem if_idx (X : Pos h0 q b) (hn : b.length = bn) (hs : bn ≤ 1000000) (A0 : At h0 c0 [pointer (some ⟨w, 0, none⟩)]) (Aw : At h0 w (.slice a n c :: ws)) (k : ∀ (i : Int) h', h0.le h' → decide (i ≥ 0) = badC n b → K (.int .i64 i) h') :
    ∀ (m j : Nat) (h : Heap), m + j = bn → h0.le h → badC n b = badC n (b.drop j) → L_slices_IndexFunc_api_Posting_api_Posting_0 q bn qc c0 (bn : Int) (j : Int) h K := by
  intro m
  induction m with
  | zero =>
    intro j h hj l0 e
    refine L_slices_IndexFunc_api_Posting_api_Posting_0r _ _ _ _ _ _ _ _ ?_
    unfold L_slices_IndexFunc_api_Posting_api_Posting_0T
    rw [List.drop_eq_nil_of_le (by omega)] at e
    exact Br.no (by simp; omega) (Ret.mk (k (-1) h l0 (by rw [e]; rfl)))
  | succ m ih =>
    intro j h hj l0 e
    refine L_slices_IndexFunc_api_Posting_api_Posting_0r _ _ _ _ _ _ _ _ ?_
    unfold L_slices_IndexFunc_api_Posting_api_Posting_0T
    have hx : b[j]? = some b[j] := List.getElem?_eq_getElem (by omega)
    rw [List.drop_eq_getElem_cons (by omega : j < b.length)] at e
    generalize b[j] = x at *
    unfold badC at e
    rw [List.any_cons] at e
    refine Br.yes (by simp; omega) (px (rdL_le l0 X) hn rfl hx (S_If1 (A0.le l0) (Aw.le l0) fun h1 l1 => ⟨_, rfl, Br.intro (fun g => ?_) fun g => ?_⟩))
    · rw [g, Bool.true_or] at e
      exact Ret.mk (k (j : Int) h1 (Heap.le_trans l0 l1) (by unfold badC; rw [e]; exact decide_eq_true (by omega)))
    · rw [g, Bool.false_or] at e
      rw [w1 (by omega)]
      exact ih (j + 1) h1 (by omega) (Heap.le_trans l0 l1) e
theorem S_badC (X : Pos h q b) (hn : b.length = bn) (hs : bn ≤ 1000000) (A0 : At h c0 [pointer (some ⟨w, 0, none⟩)]) (Aw : At h w (.slice a n c :: ws)) (k : ∀ h', h.le h' → K (.bool (badC n b)) h') :
    CallA Tryz.prog fn_slices_ContainsFunc_api_Posting_api_Posting [slice q bn qc, func (Fn.func fn_pworth_Worths_If_1) #[] #[pointer (some ⟨c0, 0, none⟩)]] h K := by
  refine F_slices_ContainsFunc_api_Posting_api_Posting _ _ _ _ _ _ ?_
  unfold F_slices_ContainsFunc_api_Posting_api_PostingT
  refine F_slices_IndexFunc_api_Posting_api_Posting _ _ _ _ _ _ ?_
  unfold F_slices_IndexFunc_api_Posting_api_PostingT
  exact if_idx X hn hs A0 Aw (fun i h' l' e => ⟨_, rfl, by rw [e]; exact Ret.mk (k h' l')⟩) bn 0 h rfl h.le_refl rfl
end
section
variable {f : WoF} {T : List Cur} {N : Nat} {L : Nat → Ac} {q : Option Addr} {b : List Pst} {bn qc : Nat}
structure IfI (h0 h : Heap) (f : WoF) (r x mv i cm n : Nat) (sp : List Value) (nt sh : Td) (cur : List Int) : Prop where
  base : h0.le h
  zr : h0 r = none
  zx : h0 x = none
  zm : h0 mv = none
  ar : At h r [pointer (some ⟨f.b 0, 0, none⟩)]
  ax : At h x [slice (some ⟨f.b (3 + 3 * i), 0, none⟩) n (f.q (3 + 3 * i)), slice (some ⟨f.b (4 + 3 * i), 0, none⟩) n (f.q (4 + 3 * i)), slice (some ⟨f.b (5 + 3 * i), 0, none⟩) n (f.q (5 + 3 * i)), int .i64 nt.1, int .i64 nt.2, int .i64 sh.1, int .i64 sh.2, slice (some ⟨mv, 0, none⟩) n cm]
  am : At h mv (intsV .i64 cur ++ sp)
  rm : r ≠ mv
  xm : x ≠ mv
theorem if_loop (t1 : 1 ≤ T.length) (ok : T.all inbB = true) (t8 : T.length ≤ 8) (X : WoX h0 f T N N L) {i : Nat} (hi : i < N) {row : List Int} (hrow : row.length = T.length) (hL : L i = acOf T row) (Xb : Pos h0 q b) (hn : b.length = bn) (hs : bn ≤ 1000000) (hb : ∀ y ∈ b, I64 y.a) (hbad : ∀ y ∈ b, 0 ≤ y.c ∧ y.c < (T.length : Int)) {r x mv cm : Nat} {sp : List Value}
    (k3 : movedW (i : Int) b row = none → ∀ h', h0.le h' → K (tuple #[int .i64 0, int .i64 0, int .i64 3]) h')
    (k : ∀ c, movedW (i : Int) b row = some c → ∀ h', h0.le h' → K (if (netW T c).2 ≠ 0 then tuple #[int .i64 0, int .i64 0, int .i64 3] else if (shW T c).2 ≠ 0 then tuple #[int .i64 0, int .i64 0, int .i64 3] else tuple #[int .i64 (netW T c).1, int .i64 (shW T c).1, int .i64 0]) h') :
    ∀ (m j : Nat) (h : Heap) (cur : List Int), m + j = bn → IfI h0 h f r x mv i cm T.length sp (netW T row) (shW T row) cur → cur.length = T.length → (∀ y ∈ cur, I64 y) → movedW (i : Int) (b.drop j) cur = movedW (i : Int) b row → L_pworth_Worths_If_0 (i : Int) r x q bn qc (bn : Int) (j : Int) h K := by
  intro m
  induction m with
  | zero =>
    intro j h cur hj I hc hI e
    refine L_pworth_Worths_If_0r _ _ _ _ _ _ _ _ _ _ ?_
    unfold L_pworth_Worths_If_0T
    rw [List.drop_eq_nil_of_le (by omega), movedW] at e
    have Xh := X.le I.base
    have Ir : Ints .i64 h (some ⟨f.b (3 + 3 * i), 0, none⟩) row := by
      have := Xh.row hi
      rw [hL] at this
      exact this.toRd
    refine Br.no (by simp; omega) ⟨_, _, _, I.ax.cell rfl, _, _, _, I.ax.cell rfl, S_EqualI (l := cur) (r := row) I.am.toRd Ir hc hrow (by omega) ⟨_, rfl, ?_⟩⟩
    have kk := k cur e.symm
    by_cases ec : cur = row
    · subst ec
      rw [decide_eq_true rfl]
      refine Br.no rfl ⟨_, I.ax.cell rfl, ?_⟩
      by_cases e1 : (netW T cur).2 ≠ 0
      · rw [if_pos e1] at kk
        exact Br.yes (by simpa using e1) (Ret.mk (kk h I.base))
      rw [if_neg e1] at kk
      refine Br.no (by simpa using e1) ⟨_, I.ax.cell rfl, ?_⟩
      by_cases e2 : (shW T cur).2 ≠ 0
      · rw [if_pos e2] at kk
        exact Br.yes (by simpa using e2) (Ret.mk (kk h I.base))
      rw [if_neg e2] at kk
      exact Br.no (by simpa using e2) ⟨_, I.ax.cell rfl, _, I.ax.cell rfl, Ret.mk (kk h I.base)⟩
    · rw [decide_eq_false ec]
      refine Br.yes rfl ⟨_, I.ar.cell rfl, _, _, _, I.ax.cell rfl, S_account Xh.t rfl ok Xh.w (row := cur) I.am.toRd hc (by omega) hI fun h1 q1 q2 c1 c2 l1 _ _ _ => ⟨_, _, _, _, _, _, _, _, _, _, _, _, _, rfl, ?_⟩⟩
      have A1 := I.ax.le l1
      have A2 : At _ x [slice (some ⟨mv, 0, none⟩) T.length cm, slice q1 T.length c1, slice q2 T.length c2, int .i64 (netW T cur).1, int .i64 (netW T cur).2, int .i64 (shW T cur).1, int .i64 (shW T cur).2, slice (some ⟨mv, 0, none⟩) T.length cm] := A1.set (o := 0) (ws := [slice (some ⟨mv, 0, none⟩) T.length cm, slice q1 T.length c1, slice q2 T.length c2, int .i64 (netW T cur).1, int .i64 (netW T cur).2, int .i64 (shW T cur).1, int .i64 (shW T cur).2])
      have l2 := le_setN (o := 0) (ws := [slice (some ⟨mv, 0, none⟩) T.length cm, slice q1 T.length c1, slice q2 T.length c2, int .i64 (netW T cur).1, int .i64 (netW T cur).2, int .i64 (shW T cur).1, int .i64 (shW T cur).2]) (Heap.le_trans I.base l1) I.zx
      refine ⟨A1.canSt (by simp), _, A2.cell rfl, ?_⟩
      by_cases e1 : (netW T cur).2 ≠ 0
      · rw [if_pos e1] at kk
        exact Br.yes (by simpa using e1) (Ret.mk (kk _ l2))
      rw [if_neg e1] at kk
      refine Br.no (by simpa using e1) ⟨_, A2.cell rfl, ?_⟩
      by_cases e2 : (shW T cur).2 ≠ 0
      · rw [if_pos e2] at kk
        exact Br.yes (by simpa using e2) (Ret.mk (kk _ l2))
      rw [if_neg e2] at kk
      exact Br.no (by simpa using e2) ⟨_, A2.cell rfl, _, A2.cell rfl, Ret.mk (kk _ l2)⟩
  | succ m ih =>
    intro j h cur hj I hc hI e
    refine L_pworth_Worths_If_0r _ _ _ _ _ _ _ _ _ _ ?_
    unfold L_pworth_Worths_If_0T
    have hx : b[j]? = some b[j] := List.getElem?_eq_getElem (by omega)
    have hm : b[j] ∈ b := List.getElem_mem _
    rw [List.drop_eq_getElem_cons (by omega : j < b.length), movedW] at e
    generalize b[j] = y at *
    have hya := hb y hm
    have hyc := hbad y hm
    refine Br.yes (by simp; omega) (px (rdL_le I.base Xb) hn rfl hx (newB_cp (vs := [int .i64 y.m, int .i64 y.c, int .i64 y.a]) rfl fun s h1 zs l1 As cs => ⟨cs, _, As.cell rfl, ?_⟩))
    generalize h1.setN s 0 [int .i64 y.m, int .i64 y.c, int .i64 y.a] = H at *
    have nms := I.am.ne zs
    have J : IfI h0 H f r x mv i cm T.length sp (netW T row) (shW T row) cur := { I with base := Heap.le_trans I.base l1, ar := I.ar.le l1, ax := I.ax.le l1, am := I.am.le l1 }
    by_cases hmi : y.m ≠ (i : Int)
    · rw [if_pos hmi] at e
      rw [w1 (by omega)]
      exact Br.yes (by simpa using hmi) (ih (j + 1) H cur (by omega) J hc hI e)
    rw [if_neg hmi] at e
    obtain ⟨c, hcc⟩ : ∃ c : Nat, y.c = (c : Int) := ⟨y.c.toNat, by omega⟩
    have hcl : c < cur.length := by omega
    have hg : cur[c]? = some (cur.getD c 0) := by rw [List.getD_eq_getElem?_getD, List.getElem?_eq_getElem hcl]; rfl
    have hgI : I64 (cur.getD c 0) := hI _ (List.mem_of_getElem? hg)
    rw [hcc, Int.toNat_natCast] at e
    refine Br.no (by simpa using hmi) ⟨_, _, _, J.ax.cell rfl, _, As.cell rfl, by omega, by omega, withAddr_intro rfl ⟨_, J.am.cell (v := int .i64 (cur.getD c 0)) (by rw [hcc, Int.toNat_natCast, Nat.zero_add, List.getElem?_append_left (by rw [intsV_length]; exact hcl), intsV_map, List.getElem?_map, hg]; rfl), _, As.cell rfl, S_Add hgI hya _ _ ⟨_, _, rfl, ?_⟩⟩⟩
    by_cases e1 : (fit (cur.getD c 0 + y.a)).2 ≠ 0
    · rw [if_pos e1] at e
      rw [fit_3 e1]
      exact Br.yes rfl (Ret.mk (k3 e.symm H J.base))
    · rw [if_neg e1] at e
      have hf := fit_in e1
      rw [fit_ok hf]
      refine Br.no rfl ⟨_, _, _, J.ax.cell rfl, _, As.cell rfl, by omega, by omega, withAddr_intro rfl ⟨J.am.canSt (by rw [List.length_append, intsV_length]; omega), ?_⟩⟩
      rw [w1 (by omega), hcc, Int.toNat_natCast, Nat.zero_add]
      refine ih (j + 1) _ (cur.set c (cur.getD c 0 + y.a)) (by omega) { J with base := le_setN J.base J.zm, ar := J.ar.set_ne J.rm, ax := J.ax.set_ne J.xm, am := ?_ } (by rw [List.length_set]; exact hc) (fun v hv => ?_) e
      · have := J.am.set (o := c) (ws := [int .i64 (cur.getD c 0 + y.a)])
        rw [setL_ints1 hcl] at this
        exact this
      · rcases List.mem_or_eq_of_mem_set hv with hv | rfl
        · exact hI v hv
        · exact hf
theorem S_wIf {h : Heap} (hT : tabE T = 0) (X : WoX h f T N N L) {m : Int} {row : List Int} (hL : 0 ≤ m → m < (N : Int) → L m.toNat = acOf T row) (hrow : row.length = T.length) (hI : ∀ y ∈ row, I64 y) (Xb : Pos h q b) (hn : b.length = bn) (hs : bn ≤ 1000000) (hb : ∀ y ∈ b, I64 y.a)
    (k : ∀ h', h.le h' → K (if 0 ≤ m ∧ m < (N : Int) then tuple #[int .i64 (ifW T row m b).1, int .i64 (ifW T row m b).2.1, int .i64 (ifW T row m b).2.2] else tuple #[int .i64 0, int .i64 0, int .i64 1]) h') :
    CallA Tryz.prog fn_pworth_Worths_If [pointer (some ⟨f.b 0, 0, none⟩), int .i64 m, slice q bn qc] h K := by
  obtain ⟨t1, t8, _⟩ := tab_parts hT
  refine F_pworth_Worths_If _ _ _ _ _ _ _ ?_
  unfold F_pworth_Worths_IfT
  refine newB_at fun r h1 hr l1 A1 => ⟨_, A1.cell rfl, S_Whas (X.le l1).w ⟨_, rfl, ?_⟩⟩
  have X1 := X.le l1
  by_cases hm : 0 ≤ m ∧ m < (N : Int)
  · rw [if_pos hm] at k
    obtain ⟨i, rfl⟩ : ∃ i : Nat, m = i := ⟨m.toNat, by omega⟩
    have hL' := hL hm.1 hm.2
    rw [Int.toNat_natCast] at hL'
    refine Br.no (by rw [decide_eq_true hm]; rfl) (S_badC (rdL_le l1 Xb) hn hs A1 X1.w fun h2 l2 => ⟨_, rfl, ?_⟩)
    unfold ifW at k
    rw [hrow] at k
    have l12 := Heap.le_trans l1 l2
    cases hbd : badC T.length b with
    | true =>
      rw [hbd, if_pos rfl] at k
      exact Br.yes rfl (Ret.mk (k h2 l12))
    | false =>
      rw [hbd, if_neg (by decide)] at k
      have hin : i < N := by omega
      have z : ∀ o, o < 7 → h2.cell (f.b 1) (0 + (i : Int).toNat * 7 + o) = (acV f T.length L i)[o]? := fun o ho => by rw [Int.toNat_natCast, Nat.zero_add]; exact (X.le l12).ac hin ho
      have zL : (L i).nt = netW T row ∧ (L i).sh = shW T row := by rw [hL']; exact ⟨rfl, rfl⟩
      refine Br.no rfl ⟨_, (A1.le l2).cell rfl, withAddr_intro rfl ⟨_, _, _, (X.le l12).w.cell rfl, by omega, by omega, withAddr_intro rfl ⟨_, _, _, z 0 (by decide), _, _, _, z 1 (by decide), _, _, _, z 2 (by decide), _, z 3 (by decide), _, z 4 (by decide), _, z 5 (by decide), _, z 6 (by decide), newB_cp (vs := [slice (some ⟨f.b (3 + 3 * i), 0, none⟩) T.length (f.q (3 + 3 * i)), slice (some ⟨f.b (4 + 3 * i), 0, none⟩) T.length (f.q (4 + 3 * i)), slice (some ⟨f.b (5 + 3 * i), 0, none⟩) T.length (f.q (5 + 3 * i)), int .i64 (L i).nt.1, int .i64 (L i).nt.2, int .i64 (L i).sh.1, int .i64 (L i).sh.2, slice none 0 0]) rfl fun x h3 zx l3 Ax cs => ⟨cs, _, _, _, Ax.cell rfl, ?_⟩⟩⟩⟩
      generalize h3.setN x 0 [slice (some ⟨f.b (3 + 3 * i), 0, none⟩) T.length (f.q (3 + 3 * i)), slice (some ⟨f.b (4 + 3 * i), 0, none⟩) T.length (f.q (4 + 3 * i)), slice (some ⟨f.b (5 + 3 * i), 0, none⟩) T.length (f.q (5 + 3 * i)), int .i64 (L i).nt.1, int .i64 (L i).nt.2, int .i64 (L i).sh.1, int .i64 (L i).sh.2, slice none 0 0] = H at *
      rw [zL.1, zL.2] at Ax
      have l13 := Heap.le_trans l12 l3
      have Ir : Ints .i64 H (some ⟨f.b (3 + 3 * i), 0, none⟩) row := by
        have := (X.le l13).row hin
        rw [hL'] at this
        exact this.toRd
      refine S_CloneW Ir hrow (by omega) t1 fun mv sp cm h4 l4 zm Am => ⟨_, _, _, rfl, (Ax.le l4).canSt (by simp), ?_⟩
      have l14 := Heap.le_trans l13 l4
      have Ax4 : At _ x [slice (some ⟨f.b (3 + 3 * i), 0, none⟩) T.length (f.q (3 + 3 * i)), slice (some ⟨f.b (4 + 3 * i), 0, none⟩) T.length (f.q (4 + 3 * i)), slice (some ⟨f.b (5 + 3 * i), 0, none⟩) T.length (f.q (5 + 3 * i)), int .i64 (netW T row).1, int .i64 (netW T row).2, int .i64 (shW T row).1, int .i64 (shW T row).2, slice (some ⟨mv, 0, none⟩) T.length cm] := (Ax.le l4).set (o := 7) (ws := [slice (some ⟨mv, 0, none⟩) T.length cm])
      have zxh := none_of_le l12 zx
      have Ar3 := (A1.le (Heap.le_trans l2 l3))
      have hrx : r ≠ x := A1.ne (none_of_le l2 zx)
      have bd : ∀ y ∈ b, 0 ≤ y.c ∧ y.c < (T.length : Int) := fun y hy => by
        unfold badC at hbd
        rw [List.any_eq_false] at hbd
        have := hbd y hy
        simp at this
        omega
      refine if_loop t1 (all_inb hT) t8 X hin hrow hL' Xb hn hs hb bd (fun e h' l' => ?_) (fun c e h' l' => ?_) bn 0 _ row rfl { base := le_setN l14 zxh, zr := hr, zx := zxh, zm := none_of_le l13 zm, ar := (Ar3.le l4).set_ne hrx, ax := Ax4, am := Am.set_ne (fun e => Ax.ne zm e.symm), rm := Ar3.ne zm, xm := Ax.ne zm } hrow hI rfl
      · rw [e] at k
        exact k h' l'
      · rw [e] at k
        dsimp only at k
        split
        · rename_i g; rw [if_pos g] at k; exact k h' l'
        · rename_i g
          rw [if_neg g] at k
          split
          · rename_i g2; rw [if_pos g2] at k; exact k h' l'
          · rename_i g2; rw [if_neg g2] at k; exact k h' l'
  · rw [if_neg hm] at k
    exact Br.yes (by rw [decide_eq_false hm]; rfl) (Ret.mk (k h1 l1))
end
end
end Go.Proofs.YtghdadniddoboaaGreat
