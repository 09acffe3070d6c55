/- The ledger's operations: what each answers, and what stands in memory then. -/
import Derived.Test.YtkcogdmddhkldaaLedMem
import Derived.Test.YtkcogdmddhkldaaMoneySum
namespace Go.Proofs.Ytkcogdmddhkldaa
open Go Go.Sy Go.Value
set_option linter.unusedVariables false
set_option linter.unusedSimpArgs false
section
variable {h0 h : Heap} {K : Value → Heap → Prop} {p B C : Nat} {sp : List Value} {S : Lg}
theorem S_lhas (A : LedAt h p B C sp S) {m c : Int} (k : K (.bool (hasB S m c)) h) : CallA Try.prog fn_pledger_Ledger_has [pointer (some ⟨p, 0, none⟩), .int .i64 m, .int .i64 c] h K := by
  refine F_pledger_Ledger_has _ _ _ _ _ ?_
  unfold F_pledger_Ledger_hasT
  unfold hasB at k
  refine Br.dec (fun h1 => withAddr_intro rfl ⟨_, _, _, A.rows, Br.dec (fun h2 => Br.dec (fun h3 => withAddr_intro rfl ⟨_, A.cur, Ret.mk ?_⟩) fun h3 => Ret.mk ?_) fun h2 => Ret.mk ?_⟩) fun h1 => Ret.mk ?_
  · have e : decide (0 ≤ m ∧ m < (S.M.length : Int) ∧ 0 ≤ c ∧ c < (S.cur : Int)) = decide (c < (S.cur : Int)) := decide_eq_decide.2 ⟨fun x => x.2.2.2, fun x => ⟨h1, h2, h3, x⟩⟩
    rw [e] at k; exact k
  · rw [decide_eq_false (fun x => h3 x.2.2.1)] at k; exact k
  · rw [decide_eq_false (fun x => h2 x.2.1)] at k; exact k
  · rw [decide_eq_false (fun x => h1 x.1)] at k; exact k
theorem S_lGet (A : LedAt h p B C sp S) {m c : Int} (k : K (.int .i64 (getG S m c)) h) : CallA Try.prog fn_pledger_Ledger_Get [pointer (some ⟨p, 0, none⟩), .int .i64 m, .int .i64 c] h K := by
  refine F_pledger_Ledger_Get _ _ _ _ _ ?_
  unfold F_pledger_Ledger_GetT
  refine S_lhas A ⟨_, rfl, ?_⟩
  unfold getG at k
  cases hb : hasB S m c with
  | false => rw [hb, if_neg (by decide)] at k; exact Br.yes rfl (Ret.mk k)
  | true =>
    rw [hb, if_pos rfl] at k
    obtain ⟨i, j, rfl, rfl, hi, hj⟩ := hasB_t hb
    have := A.sz.c8
    exact Br.no rfl (A.get hi (by omega) (Ret.mk k))
theorem S_lNostro (A : LedAt h p B C sp S) {c : Int} (k : K (.int .i64 (nosG S c)) h) : CallA Try.prog fn_pledger_Ledger_Nostro [pointer (some ⟨p, 0, none⟩), .int .i64 c] h K := by
  refine F_pledger_Ledger_Nostro _ _ _ _ ?_
  unfold F_pledger_Ledger_NostroT
  refine S_lhas A ⟨_, rfl, ?_⟩
  unfold nosG at k
  cases hb : hasB S 0 c with
  | false => rw [hb, if_neg (by decide)] at k; exact Br.yes rfl (Ret.mk k)
  | true =>
    rw [hb, if_pos rfl] at k
    obtain ⟨i, j, e, rfl, hi, hj⟩ := hasB_t hb
    have := A.sz.c8
    exact Br.no rfl (A.getN (by omega) (Ret.mk k))
theorem S_lSize (A : LedAt h p B C sp S) (k : K (tuple #[.int .i64 (S.M.length : Int), .int .i64 (S.cur : Int)]) h) : CallA Try.prog fn_pledger_Ledger_Size [pointer (some ⟨p, 0, none⟩)] h K := by
  refine F_pledger_Ledger_Size _ _ _ ?_
  unfold F_pledger_Ledger_SizeT
  exact withAddr_intro rfl ⟨_, _, _, A.rows, withAddr_intro rfl ⟨_, A.cur, Ret.mk k⟩⟩
theorem repL_zeros (n : Nat) : repL n [Value.int .i64 0, .int .i64 0, .int .i64 0, .int .i64 0, .int .i64 0, .int .i64 0, .int .i64 0, .int .i64 0] = intsV .i64 (List.replicate n (List.replicate 8 (0 : Int))).flatten := by
  induction n with
  | zero => rfl
  | succ n ih => rw [List.replicate_succ, List.flatten_cons, intsV_append, ← ih]; rfl
theorem S_lNew {m c : Int} (k1 : ¬ (1 ≤ m ∧ m ≤ 16 ∧ 1 ≤ c ∧ c ≤ 8) → K (tuple #[.pointer none, .int .i64 1]) h)
    (k2 : ∀ n w : Nat, m = (n : Int) → c = (w : Int) → 1 ≤ n → n ≤ 16 → 1 ≤ w → w ≤ 8 → ∀ h' p B C sp, h.le h' → LedAt h' p B C sp (newG n w) → h p = none → h B = none → K (tuple #[.pointer (some ⟨p, 0, none⟩), .int .i64 0]) h') :
    CallA Try.prog fn_ledger_New [.int .i64 m, .int .i64 c] h K := by
  refine F_ledger_New _ _ _ _ ?_
  unfold F_ledger_NewT
  refine Br.dec (fun h1 => Ret.mk (k1 (by omega))) fun h1 => Br.dec (fun h2 => Ret.mk (k1 (by omega))) fun h2 => Br.dec (fun h3 => Ret.mk (k1 (by omega))) fun h3 => Br.dec (fun h4 => Ret.mk (k1 (by omega))) fun h4 => ?_
  obtain ⟨n, rfl⟩ : ∃ n : Nat, m = n := ⟨m.toNat, by omega⟩
  obtain ⟨w, rfl⟩ : ∃ w : Nat, c = w := ⟨c.toNat, by omega⟩
  refine ⟨by omega, by omega, by omega, by omega, fun r hr r2 hr2 => ?_⟩
  rw [Int.toNat_natCast] at hr2 ⊢
  have hne : r ≠ r2 := fun e => by rw [← e] at hr2; unfold Heap.ins at hr2; rw [if_pos rfl] at hr2; cases hr2
  refine Ret.mk (k2 n w rfl rfl (by omega) (by omega) (by omega) (by omega) _ r2 r n [] (le_ins2 (le_ins hr) hr2) ⟨?_, ?_, fun e => hne e.symm, (newG_ok (by omega) (by omega) (by omega) (by omega)).toSz⟩ (none_of_le (le_ins hr) hr2) hr)
  · have := At.new (h.ins r (.cells (repL n [Value.int .i64 0, .int .i64 0, .int .i64 0, .int .i64 0, .int .i64 0, .int .i64 0, .int .i64 0, .int .i64 0]).toArray 149 (0, 0))) r2 (ledV r n (newG n w)) 151
    unfold ledV newG at this ⊢
    rw [List.length_replicate] at this ⊢
    exact this
  · have := (At.new h r (repL n [Value.int .i64 0, .int .i64 0, .int .i64 0, .int .i64 0, .int .i64 0, .int .i64 0, .int .i64 0, .int .i64 0]) 149).ins (x := .cells [slice (some ⟨r, 0, none⟩) n n, .int .i64 0, .int .i64 0, .int .i64 0, .int .i64 0, .int .i64 0, .int .i64 0, .int .i64 0, .int .i64 0, .int .i64 (w : Int)].toArray 151 (0, 0)) hr2
    rw [List.append_nil, show (newG n w).M.flatten = (List.replicate n (List.replicate 8 (0 : Int))).flatten from rfl, ← repL_zeros]
    exact this
theorem fit_I (a : Int) : I64 (fit a).1 := by
  unfold fit I64
  split
  · assumption
  · decide
theorem br8 {c : Nat} (hc : c < 8) {X : Prop} (k : X) : Br (decide (0 ≤ (c : Int))) (Br (decide ((c : Int) < 8)) X False) False := Br.yes (decide_eq_true (by omega)) (Br.yes (decide_eq_true (by omega)) k)
theorem S_lIn (l0 : h0.le h) (np : h0 p = none) (nB : h0 B = none) (A : LedAt h p B C sp S) {m c a : Int} (ha : I64 a)
    (k : ∀ h', h0.le h' → LedAt h' p B C sp (inG S m c a).2 → K (.int .i64 (inG S m c a).1) h') : CallA Try.prog fn_pledger_Ledger_In [pointer (some ⟨p, 0, none⟩), .int .i64 m, .int .i64 c, .int .i64 a] h K := by
  refine F_pledger_Ledger_In _ _ _ _ _ _ ?_
  unfold F_pledger_Ledger_InT
  refine S_lhas A ⟨_, rfl, ?_⟩
  unfold inG at k
  by_cases hb : hasB S m c = false
  · rw [if_pos hb] at k
    rw [hb]
    exact Br.yes rfl (Ret.mk (k h l0 A))
  rw [if_neg hb] at k
  have hb : hasB S m c = true := by simpa using hb
  rw [hb]
  obtain ⟨i, j, rfl, rfl, hi, hj⟩ := hasB_t hb
  have h8 := A.sz.c8
  have hj8 : j < 8 := by omega
  refine Br.no rfl (Br.dec (fun h2 => ?_) fun h2 => ?_)
  · rw [if_pos h2] at k
    exact Ret.mk (k h l0 A)
  rw [if_neg h2] at k
  refine A.get hi hj8 (S_Add (A.sz.i64 i j) ha h _ ⟨_, _, rfl, A.getN hj8 (S_Add (A.sz.n64 j) ha h _ ⟨_, _, rfl, ?_⟩)⟩)
  simp only [Int.toNat_natCast] at k ⊢
  by_cases h3 : (fit (rdM S.M i j + a)).2 ≠ 0
  · rw [if_pos h3] at k
    exact Br.yes (by simpa using h3) (Ret.mk (k h l0 A))
  rw [if_neg h3] at k
  by_cases h4 : (fit (S.N.getD j 0 + a)).2 ≠ 0
  · rw [if_pos h4] at k
    exact Br.no (by simpa using h3) (Br.yes (by simpa using h4) (Ret.mk (k h l0 A)))
  rw [if_neg h4, ← fit_e h3, ← fit_e h4] at k
  have A1 := A.wrR (v := (fit (rdM S.M i j + a)).1) hi hj8 (fit_I _)
  have A2 := A1.wrN (v := (fit (S.N.getD j 0 + a)).1) hj8 (fit_I _)
  exact Br.no (by simpa using h3) (Br.no (by simpa using h4) (withAddr_intro rfl ⟨_, _, _, A.rows, by omega, by omega, withAddr_intro rfl (Br.yes (decide_eq_true (by omega)) (Br.yes (decide_eq_true (by omega)) (withAddr_intro rfl ⟨A.stR hi hj8,
    Br.yes (decide_eq_true (by omega)) (Br.yes (decide_eq_true (by omega)) ⟨A1.stN hj8, Ret.mk (k _ (le_setN (le_setN l0 nB) np) A2)⟩)⟩)))⟩))
theorem S_lOut (l0 : h0.le h) (np : h0 p = none) (nB : h0 B = none) (A : LedAt h p B C sp S) {m c a : Int} (ha : I64 a)
    (k : ∀ h', h0.le h' → LedAt h' p B C sp (outG S m c a).2 → K (.int .i64 (outG S m c a).1) h') : CallA Try.prog fn_pledger_Ledger_Out [pointer (some ⟨p, 0, none⟩), .int .i64 m, .int .i64 c, .int .i64 a] h K := by
  refine F_pledger_Ledger_Out _ _ _ _ _ _ ?_
  unfold F_pledger_Ledger_OutT
  refine S_lhas A ⟨_, rfl, ?_⟩
  unfold outG at k
  by_cases hb : hasB S m c = false
  · rw [if_pos hb] at k
    rw [hb]
    exact Br.yes rfl (Ret.mk (k h l0 A))
  rw [if_neg hb] at k
  have hb : hasB S m c = true := by simpa using hb
  rw [hb]
  obtain ⟨i, j, rfl, rfl, hi, hj⟩ := hasB_t hb
  have h8 := A.sz.c8
  have hj8 : j < 8 := by omega
  refine Br.no rfl (Br.dec (fun h2 => ?_) fun h2 => ?_)
  · rw [if_pos h2] at k
    exact Ret.mk (k h l0 A)
  rw [if_neg h2] at k
  simp only [Int.toNat_natCast] at k
  have g1 := A.sz.i64 i j
  have g2 := A.sz.n64 j
  unfold I64 at g1 g2 ha
  refine A.get hi hj8 (Br.dec (fun h3 => ?_) fun h3 => ?_)
  · rw [if_pos h3] at k
    exact Ret.mk (k h l0 A)
  rw [if_neg h3] at k
  refine A.getN hj8 (Br.dec (fun h4 => ?_) fun h4 => ?_)
  · rw [if_pos h4] at k
    exact Ret.mk (k h l0 A)
  rw [if_neg h4] at k
  have e1 : IntKind.wrap IntKind.i64 (rdM S.M i j - a) = rdM S.M i j - a := wrap_i64_id (by omega) (by omega)
  have e2 : IntKind.wrap IntKind.i64 (S.N.getD j 0 - a) = S.N.getD j 0 - a := wrap_i64_id (by omega) (by omega)
  rw [← e1, ← e2] at k
  have A1 := A.wrR (v := IntKind.wrap IntKind.i64 (rdM S.M i j - a)) hi hj8 (by rw [e1]; unfold I64; omega)
  have A2 := A1.wrN (v := IntKind.wrap IntKind.i64 (S.N.getD j 0 - a)) hj8 (by rw [e2]; unfold I64; omega)
  exact withAddr_intro rfl ⟨_, _, _, A.rows, by omega, by omega, withAddr_intro rfl (br8 hj8 ⟨_, A.el hi hj8, by omega, by omega, withAddr_intro rfl (br8 hj8 ⟨A.stR hi hj8, withAddr_intro rfl (br8 hj8 ⟨_, A1.nos hj8, withAddr_intro rfl (br8 hj8 ⟨A1.stN hj8, Ret.mk (k _ (le_setN (le_setN l0 nB) np) A2)⟩)⟩)⟩)⟩)⟩
theorem S_lSwap (l0 : h0.le h) (np : h0 p = none) (nB : h0 B = none) (A : LedAt h p B C sp S) {m get give got given : Int} (ha : I64 got) (hb : I64 given)
    (k : ∀ h', h0.le h' → LedAt h' p B C sp (swapG S m get give got given).2 → K (.int .i64 (swapG S m get give got given).1) h') :
    CallA Try.prog fn_pledger_Ledger_Swap [pointer (some ⟨p, 0, none⟩), .int .i64 m, .int .i64 get, .int .i64 give, .int .i64 got, .int .i64 given] h K := by
  refine F_pledger_Ledger_Swap _ _ _ _ _ _ _ _ ?_
  unfold F_pledger_Ledger_SwapT
  unfold swapG at k
  refine S_lhas A ⟨_, rfl, ?_⟩
  by_cases h1 : hasB S m get = false
  · rw [if_pos h1] at k
    rw [h1]
    exact Br.yes rfl (Ret.mk (k h l0 A))
  rw [if_neg h1] at k
  have h1 : hasB S m get = true := by simpa using h1
  rw [h1]
  refine Br.no rfl (S_lhas A ⟨_, rfl, ?_⟩)
  by_cases h2 : hasB S m give = false
  · rw [if_pos h2] at k
    rw [h2]
    exact Br.yes rfl (Ret.mk (k h l0 A))
  rw [if_neg h2] at k
  have h2 : hasB S m give = true := by simpa using h2
  rw [h2]
  by_cases h3 : get = give
  · rw [if_pos h3] at k
    exact Br.no rfl (Br.yes (by simpa using h3) (Ret.mk (k h l0 A)))
  rw [if_neg h3] at k
  refine Br.no rfl (Br.no (by simpa using h3) (Br.dec (fun h4 => ?_) fun h4 => ?_))
  · rw [if_pos h4] at k
    exact Ret.mk (k h l0 A)
  rw [if_neg h4] at k
  refine Br.dec (fun h5 => ?_) fun h5 => ?_
  · rw [if_pos h5] at k
    exact Ret.mk (k h l0 A)
  rw [if_neg h5] at k
  obtain ⟨i, j, rfl, rfl, hi, hj⟩ := hasB_t h1
  obtain ⟨i', v, e, rfl, _, hv⟩ := hasB_t h2
  have h8 := A.sz.c8
  have hj8 : j < 8 := by omega
  have hv8 : v < 8 := by omega
  have hne : v ≠ j := fun e => h3 (by rw [e])
  simp only [Int.toNat_natCast] at k
  refine A.getN hv8 (Br.dec (fun h6 => ?_) fun h6 => ?_)
  · rw [if_pos h6] at k
    exact Ret.mk (k h l0 A)
  rw [if_neg h6] at k
  refine A.get hi hj8 (S_Add (A.sz.i64 i j) ha h _ ⟨_, _, rfl, A.getN hj8 (S_Add (A.sz.n64 j) ha h _ ⟨_, _, rfl, A.get hi hv8 (S_Sub (A.sz.i64 i v) hb h _ ⟨_, _, rfl, ?_⟩)⟩)⟩)
  by_cases h7 : (fit (rdM S.M i j + got)).2 ≠ 0
  · rw [if_pos h7] at k
    exact Br.yes (by simpa using h7) (Ret.mk (k h l0 A))
  rw [if_neg h7] at k
  by_cases h9 : (fit (S.N.getD j 0 + got)).2 ≠ 0
  · rw [if_pos h9] at k
    exact Br.no (by simpa using h7) (Br.yes (by simpa using h9) (Ret.mk (k h l0 A)))
  rw [if_neg h9] at k
  by_cases h10 : (fit (rdM S.M i v - given)).2 ≠ 0
  · rw [if_pos h10] at k
    exact Br.no (by simpa using h7) (Br.no (by simpa using h9) (Br.yes (by simpa using h10) (Ret.mk (k h l0 A))))
  have g2 := A.sz.n64 v
  unfold I64 at g2 hb
  have e2 : IntKind.wrap IntKind.i64 (S.N.getD v 0 - given) = S.N.getD v 0 - given := wrap_i64_id (by omega) (by omega)
  rw [if_neg h10, ← fit_e h7, ← fit_e h9, ← fit_e h10, ← e2] at k
  have A1 := A.wrR (v := (fit (rdM S.M i j + got)).1) hi hj8 (fit_I _)
  have A2 := A1.wrN (v := (fit (S.N.getD j 0 + got)).1) hj8 (fit_I _)
  have hl : (wnG (wrG S i j (fit (rdM S.M i j + got)).1) j (fit (S.N.getD j 0 + got)).1).M.length = S.M.length := (A.sz.sh.wr hi).1
  have A3 := A2.wrR (i := i) (c := v) (v := (fit (rdM S.M i v - given)).1) (by rw [hl]; exact hi) hv8 (fit_I _)
  have A4 := A3.wrN (c := v) (v := IntKind.wrap IntKind.i64 (S.N.getD v 0 - given)) hv8 (by rw [e2]; unfold I64; omega)
  have hnos := A3.nos hv8
  have e3 : (wrG (wnG (wrG S i j (fit (rdM S.M i j + got)).1) j (fit (S.N.getD j 0 + got)).1) i v (fit (rdM S.M i v - given)).1).N.getD v 0 = S.N.getD v 0 := by
    show (S.N.set j _).getD v 0 = _
    rw [getD_set _ _ _ _ (by rw [A.sz.N8]; exact hj8), if_neg hne]
  rw [e3] at hnos
  refine Br.no (by simpa using h7) (Br.no (by simpa using h9) (Br.no (by simpa using h10) ?_))
  exact withAddr_intro rfl ⟨_, _, _, A.rows, withAddr_intro rfl ⟨_, _, _, A.rows, by omega, by omega, withAddr_intro rfl (br8 hj8 (withAddr_intro rfl ⟨by omega, by omega, withAddr_intro rfl ⟨A.stR hi hj8, br8 hj8 ⟨A1.stN hj8, br8 hv8 ⟨A2.stR (by rw [hl]; exact hi) hv8,
    withAddr_intro rfl (br8 hv8 ⟨_, hnos, withAddr_intro rfl (br8 hv8 ⟨A3.stN hv8, Ret.mk (k _ (le_setN (le_setN (le_setN (le_setN l0 nB) np) nB) np) A4)⟩)⟩)⟩⟩⟩⟩))⟩⟩
end
end Go.Proofs.Ytkcogdmddhkldaa
