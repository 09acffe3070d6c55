/- Providers: made, asked, failed. -/
import Derived.Test.YtkcogdmddhkldaaLenMem
namespace Go.Proofs.Ytkcogdmddhkldaa
open Go Go.Sy Go.Value
set_option linter.unusedVariables false
set_option linter.unusedSimpArgs false

section
variable {h0 h : Heap} {K : Value → Heap → Prop} {f : Frm} {S : Ln}
theorem S_nhas (A : LenAt h f S) {c : Int} (k : K (.bool (hasC S c)) h) : CallA Try.prog fn_plender_Lenders_has [pointer (some ⟨f.p, 0, none⟩), .int .i64 c] h K := by
  refine F_plender_Lenders_has _ _ _ _ ?_
  unfold F_plender_Lenders_hasT
  unfold hasC at k
  refine Br.dec (fun h1 => withAddr_intro rfl ⟨_, A.cur, Ret.mk ?_⟩) fun h1 => Ret.mk ?_
  · rw [decide_eq_decide.2 (show (0 ≤ c ∧ c < (S.cur : Int)) ↔ c < (S.cur : Int) from ⟨fun x => x.2, fun x => ⟨h1, x⟩⟩)] at k; exact k
  · rw [decide_eq_false (fun x => h1 x.1)] at k; exact k
theorem S_nknown (A : LenAt h f S) {a : Int} (k : K (.bool (knownB S a)) h) : CallA Try.prog fn_plender_Lenders_known [pointer (some ⟨f.p, 0, none⟩), .int .i64 a] h K := by
  refine F_plender_Lenders_known _ _ _ _ ?_
  unfold F_plender_Lenders_knownT
  unfold knownB at k
  refine Br.dec (fun h1 => withAddr_intro rfl ⟨_, _, _, A.provs, Ret.mk ?_⟩) fun h1 => Ret.mk ?_
  · rw [decide_eq_decide.2 (show (0 ≤ a ∧ a < (S.L.length : Int)) ↔ a < (S.L.length : Int) from ⟨fun x => x.2, fun x => ⟨h1, x⟩⟩)] at k; exact k
  · rw [decide_eq_false (fun x => h1 x.1)] at k; exact k
theorem S_nLeft (A : LenAt h f S) {a c : Int} (k : K (.int .i64 (leftN S a c)) h) : CallA Try.prog fn_plender_Lenders_Left [pointer (some ⟨f.p, 0, none⟩), .int .i64 a, .int .i64 c] h K := by
  refine F_plender_Lenders_Left _ _ _ _ _ ?_
  unfold F_plender_Lenders_LeftT
  unfold leftN at k
  refine S_nknown A ⟨_, rfl, ?_⟩
  by_cases h1 : knownB S a = false
  · rw [if_pos h1] at k; rw [h1]; exact Br.yes rfl (Ret.mk k)
  rw [if_neg h1] at k
  have h1 : knownB S a = true := by simpa using h1
  rw [h1]
  refine Br.no rfl (S_nhas A ⟨_, rfl, ?_⟩)
  by_cases h2 : hasC S c = false
  · rw [if_pos h2] at k; rw [h2]; exact Br.yes rfl (Ret.mk k)
  rw [if_neg h2] at k
  have h2 : hasC S c = true := by simpa using h2
  rw [h2]
  obtain ⟨i, rfl, hi⟩ := knownB_t h1
  obtain ⟨j, rfl, hj⟩ := hasC_t h2
  refine Br.no rfl (A.getF hi ?_)
  unfold roomN at k
  simp only [Int.toNat_natCast] at k
  cases hf : S.F.getD i false with
  | true => rw [hf, if_pos rfl] at k; exact Br.yes rfl (Ret.mk k)
  | false => rw [hf, if_neg (by decide)] at k; exact Br.no rfl (A.get hi hj (Ret.mk k))
theorem S_nFailed (A : LenAt h f S) {a : Int} (k : K (.bool (failedN S a)) h) : CallA Try.prog fn_plender_Lenders_Failed [pointer (some ⟨f.p, 0, none⟩), .int .i64 a] h K := by
  refine F_plender_Lenders_Failed _ _ _ _ ?_
  unfold F_plender_Lenders_FailedT
  unfold failedN at k
  refine S_nknown A ⟨_, rfl, ?_⟩
  cases h1 : knownB S a with
  | false => rw [h1, if_neg (by decide)] at k; exact Br.no rfl (Ret.mk k)
  | true =>
    rw [h1, if_pos rfl] at k
    obtain ⟨i, rfl, hi⟩ := knownB_t h1
    rw [Int.toNat_natCast] at k
    exact Br.yes rfl (A.getF hi (Ret.mk k))
theorem S_nFail (l0 : h0.le h) (fr : Fresh h0 f S.L.length) (A : LenAt h f S) {a : Int} (k : ∀ h', h0.le h' → LenAt h' f (failN S a).2 → K (.int .i64 (failN S a).1) h') :
    CallA Try.prog fn_plender_Lenders_Fail [pointer (some ⟨f.p, 0, none⟩), .int .i64 a] h K := by
  refine F_plender_Lenders_Fail _ _ _ _ ?_
  unfold F_plender_Lenders_FailT
  unfold failN at k
  refine S_nknown A ⟨_, rfl, ?_⟩
  by_cases h1 : knownB S a = false
  · rw [if_pos h1] at k; rw [h1]; exact Br.yes rfl (Ret.mk (k h l0 A))
  rw [if_neg h1] at k
  have h1 : knownB S a = true := by simpa using h1
  rw [h1]
  obtain ⟨i, rfl, hi⟩ := knownB_t h1
  refine Br.no rfl (A.getF hi ?_)
  rw [Int.toNat_natCast] at k
  cases hf : S.F.getD i false with
  | true => rw [hf, if_pos rfl] at k; exact Br.yes rfl (Ret.mk (k h l0 A))
  | false =>
    rw [hf, if_neg (by decide)] at k
    obtain ⟨B, e, _⟩ := A.prov hi
    exact Br.no rfl (withAddr_intro rfl ⟨_, _, _, A.provs, by omega, by omega, withAddr_intro e ⟨A.stF hi e, Ret.mk (k _ (le_setN l0 (fr.a B e (by omega))) (A.wrF hi e))⟩⟩)
/-! a list is looked through -/
theorem S_neg1 {n : Int} (k : K (.bool (decide (n < 0))) h) : CallA Try.prog fn_lender_New_1_1 [.int .i64 n] h K := by
  refine F_lender_New_1_1 _ _ _ ?_
  unfold F_lender_New_1_1T
  exact Ret.mk k
theorem S_below {n : Int} (k : K (.bool (decide (n < 0))) h) : CallA Try.prog fn_split_below [.int .i64 n] h K := by
  refine F_split_below _ _ _ ?_
  unfold F_split_belowT
  exact Ret.mk k
theorem idx_c {q : Option Addr} {l : List Int} {n c : Nat} (I : Ints .i64 h q l) (hn : l.length = n) (hs : n ≤ 1000000) (k : ∀ v : Int, decide (v ≥ 0) = l.any (fun x => decide (x < 0)) → K (.int .i64 v) h) :
    ∀ (m j : Nat), m + j = n → l.any (fun x => decide (x < 0)) = (l.drop j).any (fun x => decide (x < 0)) → L_slices_IndexFunc_int64_int64_c_0 q n c (n : Int) (j : Int) h K := by
  intro m
  induction m with
  | zero =>
    intro j hj e
    refine L_slices_IndexFunc_int64_int64_c_0r _ _ _ _ _ _ _ ?_
    unfold L_slices_IndexFunc_int64_int64_c_0T
    rw [List.drop_eq_nil_of_le (by omega)] at e
    exact Br.no (by simp; omega) (Ret.mk (k (-1) (by rw [e]; rfl)))
  | succ m ih =>
    intro j hj e
    refine L_slices_IndexFunc_int64_int64_c_0r _ _ _ _ _ _ _ ?_
    unfold L_slices_IndexFunc_int64_int64_c_0T
    have hx : l[j]? = some l[j] := List.getElem?_eq_getElem (by omega)
    rw [List.drop_eq_getElem_cons (by omega : j < l.length), List.any_cons] at e
    refine Br.yes (by simp; omega) (ix I hn rfl hx (S_neg1 ⟨_, rfl, Br.intro (fun g => ?_) fun g => ?_⟩))
    · rw [g, Bool.true_or] at e
      exact Ret.mk (k (j : Int) (by rw [e]; exact decide_eq_true (by omega)))
    · rw [g, Bool.false_or] at e
      rw [wrap_i64_id (n := (j : Int) + 1) (by omega) (by omega)]
      exact ih (j + 1) (by omega) e
theorem S_anyNeg {q : Option Addr} {l : List Int} {n c : Nat} (I : Ints .i64 h q l) (hn : l.length = n) (hs : n ≤ 1000000) (k : K (.bool (l.any fun x => decide (x < 0))) h) :
    CallA Try.prog fn_slices_ContainsFunc_int64_int64 [slice q n c, func (Fn.func fn_lender_New_1_1) #[] #[]] h K := by
  refine F_slices_ContainsFunc_int64_int64_c _ _ _ _ _ ?_
  unfold F_slices_ContainsFunc_int64_int64_cT
  refine F_slices_IndexFunc_int64_int64_c _ _ _ _ _ ?_
  unfold F_slices_IndexFunc_int64_int64_cT
  refine idx_c I hn hs (fun v hv => ⟨_, rfl, Ret.mk ?_⟩) n 0 (by omega) rfl
  rw [hv]; exact k
theorem idx_d {q : Option Addr} {l : List Int} {n c : Nat} (I : Ints .i64 h q l) (hn : l.length = n) (hs : n ≤ 1000000) (k : ∀ v : Int, decide (v ≥ 0) = l.any (fun x => decide (x < 0)) → K (.int .i64 v) h) :
    ∀ (m j : Nat), m + j = n → l.any (fun x => decide (x < 0)) = (l.drop j).any (fun x => decide (x < 0)) → L_slices_IndexFunc_int64_int64_d_0 q n c (n : Int) (j : Int) h K := by
  intro m
  induction m with
  | zero =>
    intro j hj e
    refine L_slices_IndexFunc_int64_int64_d_0r _ _ _ _ _ _ _ ?_
    unfold L_slices_IndexFunc_int64_int64_d_0T
    rw [List.drop_eq_nil_of_le (by omega)] at e
    exact Br.no (by simp; omega) (Ret.mk (k (-1) (by rw [e]; rfl)))
  | succ m ih =>
    intro j hj e
    refine L_slices_IndexFunc_int64_int64_d_0r _ _ _ _ _ _ _ ?_
    unfold L_slices_IndexFunc_int64_int64_d_0T
    have hx : l[j]? = some l[j] := List.getElem?_eq_getElem (by omega)
    rw [List.drop_eq_getElem_cons (by omega : j < l.length), List.any_cons] at e
    refine Br.yes (by simp; omega) (ix I hn rfl hx (S_below ⟨_, rfl, Br.intro (fun g => ?_) fun g => ?_⟩))
    · rw [g, Bool.true_or] at e
      exact Ret.mk (k (j : Int) (by rw [e]; exact decide_eq_true (by omega)))
    · rw [g, Bool.false_or] at e
      rw [wrap_i64_id (n := (j : Int) + 1) (by omega) (by omega)]
      exact ih (j + 1) (by omega) e
theorem S_anyBelow {q : Option Addr} {l : List Int} {n c : Nat} (I : Ints .i64 h q l) (hn : l.length = n) (hs : n ≤ 1000000) (k : K (.bool (l.any fun x => decide (x < 0))) h) :
    CallA Try.prog fn_slices_ContainsFunc_int64_int64 [slice q n c, func (Fn.func fn_split_below) #[] #[]] h K := by
  refine F_slices_ContainsFunc_int64_int64_d _ _ _ _ _ ?_
  unfold F_slices_ContainsFunc_int64_int64_dT
  refine F_slices_IndexFunc_int64_int64_d _ _ _ _ _ ?_
  unfold F_slices_IndexFunc_int64_int64_dT
  refine idx_d I hn hs (fun v hv => ⟨_, rfl, Ret.mk ?_⟩) n 0 (by omega) rfl
  rw [hv]; exact k
def badRow (w : Int) (r : List Int) : Bool := ((r.length : Int) != w) || r.any fun x => decide (x < 0)
theorem S_unfit {q : Option Addr} {l : List Int} {n c c0 : Nat} {w : Int} (I : Ints .i64 h q l) (hn : l.length = n) (hs : n ≤ 1000000) (hc : h.cell c0 0 = some (.int .i64 w)) (k : K (.bool (badRow w l)) h) :
    CallA Try.prog fn_lender_New_1 [slice q n c, pointer (some ⟨c0, 0, none⟩)] h K := by
  refine F_lender_New_1 _ _ _ _ _ _ ?_
  unfold F_lender_New_1T
  unfold badRow at k
  rw [hn] at k
  refine ⟨_, hc, Br.intro (fun g => ?_) fun g => ?_⟩
  · rw [g, Bool.true_or] at k; exact Ret.mk k
  · rw [g, Bool.false_or] at k
    exact S_anyNeg I hn hs ⟨_, rfl, Ret.mk k⟩
theorem idx_b {p : Option Addr} {NL : List NRow} {n c c0 : Nat} {w : Int} (X : Nets h p NL) (hn : NL.length = n) (hs : n ≤ 1000) (hr : ∀ x ∈ NL, x.l.length ≤ 1000000) (hc : h.cell c0 0 = some (.int .i64 w)) (k : ∀ v : Int, decide (v ≥ 0) = (mxOf NL).any (badRow w) → K (.int .i64 v) h) :
    ∀ (m j : Nat), m + j = n → (mxOf NL).any (badRow w) = ((mxOf NL).drop j).any (badRow w) → L_slices_IndexFunc_sint64_sint64_b_0 p n c c0 (n : Int) (j : Int) h K := by
  have hM : (mxOf NL).length = n := by unfold mxOf; rw [List.length_map, hn]
  intro m
  induction m with
  | zero =>
    intro j hj e
    refine L_slices_IndexFunc_sint64_sint64_b_0r _ _ _ _ _ _ _ _ ?_
    unfold L_slices_IndexFunc_sint64_sint64_b_0T
    rw [List.drop_eq_nil_of_le (by omega)] at e
    exact Br.no (by simp; omega) (Ret.mk (k (-1) (by rw [e]; rfl)))
  | succ m ih =>
    intro j hj e
    refine L_slices_IndexFunc_sint64_sint64_b_0r _ _ _ _ _ _ _ _ ?_
    unfold L_slices_IndexFunc_sint64_sint64_b_0T
    have hx : NL[j]? = some NL[j] := List.getElem?_eq_getElem (by omega)
    have hmem : NL[j] ∈ NL := List.getElem_mem _
    have hMx : (mxOf NL)[j]'(by omega) = NL[j].l := by simp [mxOf]
    rw [List.drop_eq_getElem_cons (by omega : j < (mxOf NL).length), hMx, List.any_cons] at e
    generalize NL[j] = x at *
    refine Br.yes (by simp; omega) (nx X hn rfl hx (S_unfit (X.2 x hmem) rfl (hr x hmem) hc ⟨_, rfl, Br.intro (fun g => ?_) fun g => ?_⟩))
    · rw [g, Bool.true_or] at e
      exact Ret.mk (k (j : Int) (by rw [e]; exact decide_eq_true (by omega)))
    · rw [g, Bool.false_or] at e
      rw [wrap_i64_id (n := (j : Int) + 1) (by omega) (by omega)]
      exact ih (j + 1) (by omega) e
theorem S_anyBad {p : Option Addr} {NL : List NRow} {n c c0 : Nat} {w : Int} (X : Nets h p NL) (hn : NL.length = n) (hs : n ≤ 1000) (hr : ∀ x ∈ NL, x.l.length ≤ 1000000) (hc : h.cell c0 0 = some (.int .i64 w)) (k : K (.bool ((mxOf NL).any (badRow w))) h) :
    CallA Try.prog fn_slices_ContainsFunc_sint64_sint64 [slice p n c, func (Fn.func fn_lender_New_1) #[] #[pointer (some ⟨c0, 0, none⟩)]] h K := by
  refine F_slices_ContainsFunc_sint64_sint64_b _ _ _ _ _ _ ?_
  unfold F_slices_ContainsFunc_sint64_sint64_bT
  refine F_slices_IndexFunc_sint64_sint64_b _ _ _ _ _ _ ?_
  unfold F_slices_IndexFunc_sint64_sint64_bT
  refine idx_b X hn hs hr hc (fun v hv => ⟨_, rfl, Ret.mk ?_⟩) n 0 (by omega) rfl
  rw [hv]; exact k
end
end Go.Proofs.Ytkcogdmddhkldaa
