/- The reference's ledger in memory: what is asked, pay-ins and pay-outs, and swaps. -/
import Derived.Test.YtkcogdmddhkldaaRws
import Derived.Test.YtkcogdmddhkldaaLedPure
import Derived.Test.YtkcogdmddhkldaaBigSum
import Derived.Test.YtkcogdmddhkldaaEqLedRef
namespace Go.Proofs.Ytkcogdmddhkldaa
open Go Go.Sy Go.Value
set_option linter.unusedVariables false
set_option linter.unusedSimpArgs false

/-! rows as wide as there are currencies -/
def cutM (S : Lg) : Mx := S.M.map (·.take S.cur)
theorem cutM_len (S : Lg) : (cutM S).length = S.M.length := by unfold cutM; rw [List.length_map]
theorem cutM_rd {S : Lg} {i c : Nat} (hc : c < S.cur) : rdM (cutM S) i c = rdM S.M i c := by
  unfold rdM cutM
  rw [List.getD_eq_getElem?_getD (l := S.M.map _), List.getElem?_map, List.getD_eq_getElem?_getD (l := S.M)]
  cases S.M[i]? with
  | none => rfl
  | some r =>
    show (r.take S.cur).getD c 0 = r.getD c 0
    rw [List.getD_eq_getElem?_getD, List.getElem?_take, if_pos hc, ← List.getD_eq_getElem?_getD]
theorem cutM_sh {S : Lg} (o : S.Sz) : shM (cutM S) (cutM S).length S.cur := ⟨rfl, fun r hr => by
  unfold cutM at hr
  obtain ⟨y, hy, rfl⟩ := List.mem_map.1 hr
  have h8 := o.sh.2 y hy
  have := o.c8
  rw [List.length_take]; omega⟩
theorem cutM_wr {S : Lg} {i c : Nat} {v : Int} (hc : c < S.cur) : cutM (wrG S i c v) = wrM (cutM S) i c v := by
  have e : (cutM S).getD i [] = ((S.M.getD i []).take S.cur) := by
    unfold cutM
    rw [List.getD_eq_getElem?_getD, List.getElem?_map, List.getD_eq_getElem?_getD]
    cases S.M[i]? with
    | none => simp
    | some r => rfl
  unfold wrM
  rw [e]
  unfold cutM wrG wrM
  dsimp only
  rw [List.map_set, List.take_set]
structure XFr where
  p : Nat
  f : Rws
  q : Nat
  qc : Nat
  qs : List Value
structure XAt (h : Heap) (g : XFr) (S : Lg) : Prop where
  ap : At h g.p [.slice g.f.a S.M.length g.f.C, .slice (some ⟨g.q, 0, none⟩) S.cur g.qc]
  rw : RwsAt h g.f (cutM S) S.cur
  nd : At h g.q (intsV .i64 (S.N.take S.cur) ++ g.qs)
  dp : g.f.D S.M.length g.p = false
  qp : g.q ≠ g.p
  dq : g.f.D S.M.length g.q = false
  sz : S.Sz
def XFr.D (g : XFr) (n x : Nat) : Bool := x == g.p || x == g.q || g.f.D n x
theorem XFr.D_t {g : XFr} {n x : Nat} (h : g.D n x = true) : x = g.p ∨ x = g.q ∨ g.f.D n x = true := by
  unfold XFr.D at h
  rw [Bool.or_eq_true, Bool.or_eq_true] at h
  rcases h with (h | h) | h
  · exact .inl (by simpa using h)
  · exact .inr (.inl (by simpa using h))
  · exact .inr (.inr h)
theorem XFr.D_p (g : XFr) (n : Nat) : g.D n g.p = true := by unfold XFr.D; simp
theorem XFr.D_q (g : XFr) (n : Nat) : g.D n g.q = true := by unfold XFr.D; simp
theorem XFr.D_f {g : XFr} {n x : Nat} (h : g.f.D n x = true) : g.D n x = true := by unfold XFr.D; rw [h, Bool.or_true]
theorem S_fit2 {a b : Int} (ha : I64 a) (hb : I64 b) {h : Heap} {Q : Int → Int → Heap → Prop} (k : ∀ h', h.le h' → Q (fit (a + b)).1 (fit (a + b)).2 h') :
    CallA Try.prog fn_ref01_Of [.int .i64 a] h fun (v : Value) (h : Heap) => ∃ (b1 : Bool), ∃ (a1 : Option Addr), ∃ (n : Nat), ∃ (m : Nat), v = agg #[Value.bool b1, slice a1 n m] ∧
      CallA Try.prog fn_ref01_Of [.int .i64 b] h fun (v : Value) (h : Heap) => ∃ (b2 : Bool), ∃ (a2 : Option Addr), ∃ (n2 : Nat), ∃ (m2 : Nat), v = agg #[Value.bool b2, slice a2 n2 m2] ∧
        CallA Try.prog fn_ref01_Add [agg #[Value.bool b1, slice a1 n m], agg #[Value.bool b2, slice a2 n2 m2]] h fun (v : Value) (h : Heap) => ∃ (b3 : Bool), ∃ (a3 : Option Addr), ∃ (n3 : Nat), ∃ (m3 : Nat), v = agg #[Value.bool b3, slice a3 n3 m3] ∧
          CallA Try.prog fn_ref01_Fit [agg #[Value.bool b3, slice a3 n3 m3]] h fun (v : Value) (h : Heap) => ∃ (x : Int), ∃ (e : Int), v = tuple #[.int .i64 x, .int .i64 e] ∧ Q x e h := by
  refine S_Of ha fun v1 h1 l1 bn1 => ?_
  have br1 := bn1.raw
  obtain ⟨n1, p1, c1, d1, rfl, _⟩ := bn1
  refine ⟨_, _, _, _, rfl, S_Of hb fun v2 h2 l2 bn2 => ?_⟩
  have br2 := bn2.raw
  obtain ⟨n2, p2, c2, d2, rfl, _⟩ := bn2
  refine ⟨_, _, _, _, rfl, S_Add_Big (br1.le l2) br2 (Nat.le_refl _) (Nat.le_refl _) (by omega) fun v3 h3 l3 bn3 => ?_⟩
  have br3 := bn3.raw
  obtain ⟨n3, p3, c3, d3, rfl, _⟩ := bn3
  exact ⟨_, _, _, _, rfl, S_Fit br3 (by omega) fun h4 l4 => ⟨_, _, rfl, k h4 (Heap.le_trans l1 (Heap.le_trans l2 (Heap.le_trans l3 l4)))⟩⟩
section
variable {h0 h : Heap} {K : Value → Heap → Prop} {g : XFr} {S : Lg}
theorem XAt.mv {h' : Heap} (A : XAt h g S) (k : ∀ b xs, g.D S.M.length b = true → At h b xs → At h' b xs) : XAt h' g S :=
  { A with ap := k _ _ (g.D_p _) A.ap, rw := A.rw.mv fun b xs d a => k b xs (XFr.D_f (by rw [← cutM_len]; exact d)) a, nd := k _ _ (g.D_q _) A.nd }
theorem XAt.le {h' : Heap} (A : XAt h g S) (l : h.le h') : XAt h' g S := A.mv fun b xs _ a => a.le l
theorem XAt.at (A : XAt h g S) {x : Nat} (e : g.D S.M.length x = true) : ∃ xs, At h x xs := by
  rcases XFr.D_t e with rfl | rfl | e2
  · exact ⟨_, A.ap⟩
  · exact ⟨_, A.nd⟩
  · exact A.rw.at (by rw [cutM_len]; exact e2)
theorem XAt.fresh (A : XAt h g S) {x : Nat} (e : h x = none) : g.D S.M.length x = false := by
  cases hd : g.D S.M.length x with
  | false => rfl
  | true => obtain ⟨xs, a⟩ := A.at hd; exact (a.ne e rfl).elim
theorem XAt.rows (A : XAt h g S) : h.cell g.p 0 = some (.slice g.f.a S.M.length g.f.C) := A.ap.cell rfl
theorem XAt.nos (A : XAt h g S) : h.cell g.p (0 + 1) = some (.slice (some ⟨g.q, 0, none⟩) S.cur g.qc) := A.ap.cell rfl
theorem XAt.getM (A : XAt h g S) {i c : Nat} (hi : i < S.M.length) (hc : c < S.cur) {Q : Int → Prop} (kk : Q (rdM S.M i c)) :
    withAddr (some ⟨g.p, 0, none⟩) fun b o => ∃ a n m, h.cell b o = some (.slice a n m) ∧ 0 ≤ (i : Int) ∧ (i : Int) < (n : Int) ∧ withAddr a fun b o => ∃ a n m, h.cell b (o + (i : Int).toNat) = some (.slice a n m) ∧ 0 ≤ (c : Int) ∧ (c : Int) < (n : Int) ∧ withAddr a fun b o => ∃ n, h.cell b (o + (c : Int).toNat) = some (.int .i64 n) ∧ Q n :=
  withAddr_intro rfl ⟨_, _, _, A.rows, by omega, by omega, A.rw.get (by rw [cutM_len]; exact hi) hc (by rw [cutM_rd hc]; exact kk)⟩
theorem XAt.nat (A : XAt h g S) {c : Nat} (hc : c < S.cur) : h.cell g.q (0 + c) = some (.int .i64 (S.N.getD c 0)) := by
  have h8 := A.sz.N8
  have c8 := A.sz.c8
  refine A.nd.cell ?_
  rw [Nat.zero_add, List.getElem?_append_left (by rw [intsV_length, List.length_take]; omega), intsV_map, List.getElem?_map, List.getElem?_take, if_pos hc, List.getElem?_eq_getElem (by omega), List.getD_eq_getElem?_getD, List.getElem?_eq_getElem (by omega)]; rfl
theorem XAt.getN (A : XAt h g S) {c : Nat} (hc : c < S.cur) {Q : Int → Prop} (kk : Q (S.N.getD c 0)) :
    withAddr (some ⟨g.p, 0, none⟩) fun b o => ∃ a n m, h.cell b (o + 1) = some (.slice a n m) ∧ 0 ≤ (c : Int) ∧ (c : Int) < (n : Int) ∧ withAddr a fun b o => ∃ n, h.cell b (o + (c : Int).toNat) = some (.int .i64 n) ∧ Q n :=
  withAddr_intro rfl ⟨_, _, _, A.nos, by omega, by omega, withAddr_intro rfl ⟨_, A.nat hc, kk⟩⟩
theorem XAt.stN (A : XAt h g S) {c : Nat} (hc : c < S.cur) : h.canSt g.q (0 + c) 1 := A.nd.canSt (by have := A.sz.N8; have := A.sz.c8; rw [List.length_append, intsV_length, List.length_take]; omega)
theorem XAt.wrR (A : XAt h g S) {i c : Nat} {v : Int} (hi : i < S.M.length) (hc : c < S.cur) (hv : I64 v) : XAt (h.setN (g.f.R i) (0 + c) [.int .i64 v]) g (wrG S i c v) := by
  have hl : (wrG S i c v).M.length = S.M.length := (A.sz.sh.wr hi).1
  have hd := g.f.D_row hi
  have hc8 : c < 8 := by have := A.sz.c8; omega
  refine ⟨?_, ?_, A.nd.set_ne fun e => ?_, by rw [hl]; exact A.dp, A.qp, by rw [hl]; exact A.dq, ?_⟩
  · rw [hl]
    exact A.ap.set_ne fun e => by rw [← e, A.dp] at hd; cases hd
  · rw [cutM_wr hc]
    exact A.rw.wr (by rw [cutM_len]; exact hi) hc
  · rw [← e, A.dq] at hd; cases hd
  · have h64 : ∀ j d, I64 (rdM (wrM S.M i c v) j d) := fun j d => by
      rw [rd_wr A.sz.sh hi hc8]; split
      · exact hv
      · exact A.sz.i64 j d
    exact { A.sz with n1 := by rw [hl]; exact A.sz.n1, n16 := by rw [hl]; exact A.sz.n16, sh := by rw [hl]; exact A.sz.sh.wr hi, i64 := h64 }
theorem XAt.wrN (A : XAt h g S) {c : Nat} {v : Int} (hc : c < S.cur) (hv : I64 v) : XAt (h.setN g.q (0 + c) [.int .i64 v]) g (wnG S c v) := by
  have h8 := A.sz.N8
  have c8 := A.sz.c8
  refine ⟨A.ap.set_ne A.qp.symm, A.rw.mv fun b xs d a => a.set_ne fun e => ?_, ?_, A.dp, A.qp, A.dq, ?_⟩
  · rw [cutM_len, e] at d
    have := A.dq
    rw [this] at d; cases d
  · have := A.nd.set (o := 0 + c) (ws := [.int .i64 v])
    rw [Nat.zero_add, setL_ints' (by rw [List.length_take]; omega)] at this
    rw [Nat.zero_add]
    show At _ g.q (intsV .i64 ((S.N.set c v).take S.cur) ++ g.qs)
    rw [List.take_set]
    exact this
  · have h64 : ∀ d, I64 ((S.N.set c v).getD d 0) := fun d => by
      rw [getD_set _ _ _ _ (by omega)]; split
      · exact hv
      · exact A.sz.n64 d
    exact { A.sz with N8 := by show (S.N.set c v).length = 8; rw [List.length_set]; exact h8, n64 := h64 }
theorem XAt.stR (A : XAt h g S) {i c : Nat} (hi : i < S.M.length) (hc : c < S.cur) : h.canSt (g.f.R i) (0 + c) 1 := A.rw.st (by rw [cutM_len]; exact hi) hc
/-- a place in a row, to be written -/
theorem XAt.putM (A : XAt h g S) {i c : Nat} (hi : i < S.M.length) (hc : c < S.cur) {Q : Nat → Nat → Prop} (kk : Q (g.f.R i) 0) :
    withAddr (some ⟨g.p, 0, none⟩) fun b o => ∃ a n m, h.cell b o = some (.slice a n m) ∧ 0 ≤ (i : Int) ∧ (i : Int) < (n : Int) ∧ withAddr a fun b o => ∃ a n m, h.cell b (o + (i : Int).toNat) = some (.slice a n m) ∧ 0 ≤ (c : Int) ∧ (c : Int) < (n : Int) ∧ withAddr a Q := by
  obtain ⟨B, e, hcl⟩ := A.rw.cl (i := i) (by rw [cutM_len]; exact hi)
  exact withAddr_intro rfl ⟨_, _, _, A.rows, by omega, by omega, withAddr_intro e ⟨_, _, _, hcl, by omega, by omega, withAddr_intro rfl kk⟩⟩
theorem XAt.putN (A : XAt h g S) {c : Nat} (hc : c < S.cur) {Q : Nat → Nat → Prop} (kk : Q g.q 0) :
    withAddr (some ⟨g.p, 0, none⟩) fun b o => ∃ a n m, h.cell b (o + 1) = some (.slice a n m) ∧ 0 ≤ (c : Int) ∧ (c : Int) < (n : Int) ∧ withAddr a Q :=
  withAddr_intro rfl ⟨_, _, _, A.nos, by omega, by omega, withAddr_intro rfl kk⟩
theorem S_xHas (A : XAt h g S) {m c : Int} (k : K (.bool (hasB S m c)) h) : CallA Try.prog fn_pref08_Ledger_Has [pointer (some ⟨g.p, 0, none⟩), .int .i64 m, .int .i64 c] h K := by
  refine F_pref08_Ledger_Has _ _ _ _ _ ?_
  unfold F_pref08_Ledger_HasT
  unfold hasB at k
  refine Br.dec (fun h1 => withAddr_intro rfl ⟨_, _, _, A.rows, Br.dec (fun h2 => Br.dec (fun h3 => withAddr_intro rfl ⟨_, _, _, A.nos, Ret.mk ?_⟩) fun h3 => Ret.mk ?_) fun h2 => Ret.mk ?_⟩) fun h1 => Ret.mk ?_
  · have e : decide (0 ≤ m ∧ m < (S.M.length : Int) ∧ 0 ≤ c ∧ c < (S.cur : Int)) = decide (c < (S.cur : Int)) := decide_eq_decide.2 ⟨fun x => x.2.2.2, fun x => ⟨h1, h2, h3, x⟩⟩
    rw [e] at k; exact k
  · rw [decide_eq_false (fun x => h3 x.2.2.1)] at k; exact k
  · rw [decide_eq_false (fun x => h2 x.2.1)] at k; exact k
  · rw [decide_eq_false (fun x => h1 x.1)] at k; exact k
theorem S_xGet (A : XAt h g S) {m c : Int} (k : K (.int .i64 (getG S m c)) h) : CallA Try.prog fn_pref08_Ledger_Get [pointer (some ⟨g.p, 0, none⟩), .int .i64 m, .int .i64 c] h K := by
  refine F_pref08_Ledger_Get _ _ _ _ _ ?_
  unfold F_pref08_Ledger_GetT
  refine S_xHas A ⟨_, rfl, ?_⟩
  unfold getG at k
  cases hb : hasB S m c with
  | false => rw [hb, if_neg (by decide)] at k; exact Br.no rfl (Ret.mk k)
  | true =>
    rw [hb, if_pos rfl] at k
    obtain ⟨i, j, rfl, rfl, hi, hj⟩ := hasB_t hb
    exact Br.yes rfl (A.getM hi hj (Ret.mk k))
section
variable (l0 : h0.le h) (fr : ∀ x, g.D S.M.length x = true → h0 x = none) (A : XAt h g S)
include l0 fr A
theorem S_xIn {m c a : Int} (ha : I64 a) (k : ∀ h', h0.le h' → XAt h' g (inG S m c a).2 → K (.int .i64 (inG S m c a).1) h') : CallA Try.prog fn_pref08_Ledger_In [pointer (some ⟨g.p, 0, none⟩), .int .i64 m, .int .i64 c, .int .i64 a] h K := by
  refine F_pref08_Ledger_In _ _ _ _ _ _ ?_
  unfold F_pref08_Ledger_InT
  refine S_xHas A ⟨_, rfl, ?_⟩
  unfold inG at k
  by_cases hb : hasB S m c = false
  · rw [if_pos hb] at k
    rw [hb]
    exact Br.yes rfl (Ret.mk (k h l0 A))
  rw [if_neg hb] at k
  have hb : hasB S m c = true := by simpa using hb
  rw [hb]
  obtain ⟨i, j, rfl, rfl, hi, hj⟩ := hasB_t hb
  refine Br.no rfl (Br.dec (fun h2 => ?_) fun h2 => ?_)
  · rw [if_pos h2] at k
    exact Ret.mk (k h l0 A)
  rw [if_neg h2] at k
  simp only [Int.toNat_natCast] at k
  refine L_pref08_Ledger_In_1003r _ _ _ _ _ _ ?_
  unfold L_pref08_Ledger_In_1003T
  refine A.getM hi hj (S_fit2 (A.sz.i64 i j) ha fun h1 l1 => ?_)
  refine (A.le l1).getN hj (S_fit2 (A.sz.n64 j) ha fun h3 l3 => ?_)
  have l13 := Heap.le_trans l1 l3
  have l03 := Heap.le_trans l0 l13
  have A3 := A.le l13
  by_cases g1 : (fit (rdM S.M i j + a)).2 ≠ 0
  · rw [if_pos g1] at k
    exact Br.yes (by simpa using g1) (Ret.mk (k h3 l03 A3))
  rw [if_neg g1] at k
  by_cases g2 : (fit (S.N.getD j 0 + a)).2 ≠ 0
  · rw [if_pos g2] at k
    exact Br.no (by simpa using g1) (Br.yes (by simpa using g2) (Ret.mk (k h3 l03 A3)))
  rw [if_neg g2] at k
  rw [fit_e g1, fit_e g2]
  refine Br.no (by simpa using g1) (Br.no (by simpa using g2) ?_)
  refine L_pref08_Ledger_In_1007r _ _ _ _ _ _ _ ?_
  unfold L_pref08_Ledger_In_1007T
  have A4 := A3.wrR (v := rdM S.M i j + a) hi hj (fit_in g1)
  have A5 := A4.wrN (v := S.N.getD j 0 + a) hj (fit_in g2)
  exact A3.putM hi hj ⟨A3.stR hi hj, A4.putN hj ⟨A4.stN hj, Ret.mk (k _ (le_setN (le_setN l03 (fr _ (XFr.D_f (g.f.D_row hi)))) (fr _ (g.D_q _))) A5)⟩⟩
theorem S_xOut {m c a : Int} (ha : I64 a) (k : ∀ h', h0.le h' → XAt h' g (outG S m c a).2 → K (.int .i64 (outG S m c a).1) h') : CallA Try.prog fn_pref08_Ledger_Out [pointer (some ⟨g.p, 0, none⟩), .int .i64 m, .int .i64 c, .int .i64 a] h K := by
  refine F_pref08_Ledger_Out _ _ _ _ _ _ ?_
  unfold F_pref08_Ledger_OutT
  refine S_xHas A ⟨_, rfl, ?_⟩
  unfold outG at k
  by_cases hb : hasB S m c = false
  · rw [if_pos hb] at k
    rw [hb]
    exact Br.yes rfl (Ret.mk (k h l0 A))
  rw [if_neg hb] at k
  have hb : hasB S m c = true := by simpa using hb
  rw [hb]
  obtain ⟨i, j, rfl, rfl, hi, hj⟩ := hasB_t hb
  refine Br.no rfl (Br.dec (fun h2 => ?_) fun h2 => ?_)
  · rw [if_pos h2] at k
    exact Ret.mk (k h l0 A)
  rw [if_neg h2] at k
  simp only [Int.toNat_natCast] at k
  refine L_pref08_Ledger_Out_1003r _ _ _ _ _ _ ?_
  unfold L_pref08_Ledger_Out_1003T
  have g1 := A.sz.i64 i j
  have g2 := A.sz.n64 j
  unfold I64 at g1 g2 ha
  refine A.getM hi hj (Br.dec (fun h3 => ?_) fun h3 => A.getN hj (Br.dec (fun h4 => ?_) fun h4 => ?_))
  · rw [if_pos h3] at k
    exact Ret.mk (k h l0 A)
  · rw [if_neg h3, if_pos h4] at k
    exact Ret.mk (k h l0 A)
  rw [if_neg h3, if_neg h4] at k
  refine L_pref08_Ledger_Out_1005r _ _ _ _ _ _ ?_
  unfold L_pref08_Ledger_Out_1005T
  have e1 : IntKind.wrap IntKind.i64 (rdM S.M i j - a) = rdM S.M i j - a := wrap_i64_id (by omega) (by omega)
  have e2 : IntKind.wrap IntKind.i64 (S.N.getD j 0 - a) = S.N.getD j 0 - a := wrap_i64_id (by omega) (by omega)
  have A4 := A.wrR (v := rdM S.M i j - a) hi hj (by unfold I64; omega)
  have A5 := A4.wrN (v := S.N.getD j 0 - a) hj (by unfold I64; omega)
  obtain ⟨B, eB, hcl⟩ := A.rw.cl (i := i) (by rw [cutM_len]; exact hi)
  have hcl2 := A.rw.amt (i := i) (c := j) (by rw [cutM_len]; exact hi) hj
  rw [cutM_rd hj] at hcl2
  refine withAddr_intro rfl ⟨_, _, _, A.rows, by omega, by omega, withAddr_intro eB ⟨_, _, _, hcl, withAddr_intro rfl ⟨_, _, _, A.rows, by omega, by omega, withAddr_intro eB ⟨_, _, _, hcl, by omega, by omega, withAddr_intro rfl ⟨_, hcl2, by omega, by omega, withAddr_intro rfl ⟨A.stR hi hj, ?_⟩⟩⟩⟩⟩⟩
  try dsimp only
  simp only [Int.toNat_natCast]
  rw [e1]
  refine withAddr_intro rfl ⟨_, _, _, A4.nos, withAddr_intro rfl ⟨_, _, _, A4.nos, by omega, by (show (j : Int) < (S.cur : Int); omega), withAddr_intro rfl ⟨_, A4.nat hj, by omega, by (show (j : Int) < (S.cur : Int); omega), withAddr_intro rfl ⟨A4.stN hj, Ret.mk ?_⟩⟩⟩⟩
  rw [show (wrG S i j (rdM S.M i j - a)).N.getD j 0 = S.N.getD j 0 from rfl, e2]
  exact k _ (le_setN (le_setN l0 (fr _ (XFr.D_f (g.f.D_row hi)))) (fr _ (g.D_q _))) A5
end
end
end Go.Proofs.Ytkcogdmddhkldaa
