/- Shares: the awake test answers true. -/
import Derived.Test.YtghdadniddoboaaEqSpSame
import Derived.Test.YtghdadniddoboaaEqSpAw
import Derived.Test.YtghdadniddoboaaSpFill
namespace Go.Proofs.Ytghdadniddoboaa
open Go Go.Sy Go.Value
set_option linter.unusedVariables false
set_option linter.unusedSimpArgs false

theorem vA : sharesR 10 [1, 5, 1] = ([2, 7, 1], 0) := by
  unfold sharesR
  rw [if_neg (by decide), if_neg (by decide), if_neg (by decide), if_neg (by decide), if_neg (by decide)]
  unfold sharesL
  have o : ordL (restL 10 (sumL [1, 5, 1]) [1, 5, 1]) ([1, 5, 1] : List Int).length = [0, 2, 1] := ordL_is (by decide) (by decide)
  rw [o]; decide
theorem vB : evenR 10 3 = ([4, 3, 3], 0) := by
  unfold evenR
  rw [if_neg (by decide), if_neg (by decide), if_neg (by decide)]
  have e : ones (Int.toNat 3) = [1, 1, 1] := rfl
  rw [e]
  unfold sharesR
  rw [if_neg (by decide), if_neg (by decide), if_neg (by decide), if_neg (by decide), if_neg (by decide)]
  unfold sharesL
  have o : ordL (restL 10 (sumL [1, 1, 1]) [1, 1, 1]) ([1, 1, 1] : List Int).length = [0, 1, 2] := ordL_is (by decide) (by decide)
  rw [o]; decide
theorem vC : fillR [3, 0, 4] 10 = ([3, 0, 4], 3, 0) := by decide
theorem vD : sharesR 10 [0] = ([], 1) := by
  unfold sharesR
  rw [if_neg (by decide), if_neg (by decide), if_neg (by decide), if_pos (by decide)]
theorem vE : evenR 1 65 = ([], 4) := by
  unfold evenR
  rw [if_pos (by decide)]
section
variable {K : Value → Heap → Prop} {h : Heap}
theorem same2_loop {a b : Option Addr} {la lb : List Int} {n ac bc : Nat} (Ia : Ints .i64 h a la) (Ib : Ints .i64 h b lb) (ha : la.length = n) (hb : lb.length = n) (hs : n ≤ 1099511627776) :
    ∀ (m j : Nat), m + j = n → Ret h K (.bool (decide (la.drop j = lb.drop j))) → L_ref02_Same_0 a n ac b n bc j h K := by
  intro m
  induction m with
  | zero =>
    intro j hj k
    refine L_ref02_Same_0r _ _ _ _ _ _ _ _ _ ?_
    unfold L_ref02_Same_0T
    refine Br.no (by simp; omega) ?_
    rw [List.drop_eq_nil_of_le (by omega), List.drop_eq_nil_of_le (by omega)] at k
    exact k
  | succ m ih =>
    intro j hj k
    refine L_ref02_Same_0r _ _ _ _ _ _ _ _ _ ?_
    unfold L_ref02_Same_0T
    have ea : la[j]? = some la[j] := List.getElem?_eq_getElem (by omega)
    have eb : lb[j]? = some lb[j] := List.getElem?_eq_getElem (by omega)
    rw [List.drop_eq_getElem_cons (by omega : j < la.length), List.drop_eq_getElem_cons (by omega : j < lb.length)] at k
    refine Br.yes (by simp; omega) (ix Ia ha rfl ea (ix Ib hb rfl eb ?_))
    refine Br.intro (fun e => ?_) (fun e => ?_)
    · have : la[j] ≠ lb[j] := by simpa using e
      rw [decide_eq_false (fun x => this (List.cons.inj x).1)] at k
      exact k
    · have e : la[j] = lb[j] := by simpa using e
      rw [wrap_i64_id (by omega) (by omega)]
      refine ih (j + 1) (by omega) ?_
      have e0 : ∀ (a b : Int) (x y : List Int), a = b → ((a :: x = b :: y) ↔ x = y) := by rintro a _ x y rfl; simp
      have := e0 _ _ (la.drop (j + 1)) (lb.drop (j + 1)) e
      rw [decide_eq_decide.2 this] at k
      exact k
theorem S_Same2 {a b : Option Addr} {la lb : List Int} {n m ac bc : Nat} (Ia : Ints .i64 h a la) (Ib : Ints .i64 h b lb) (ha : la.length = n) (hb : lb.length = m) (hs : n ≤ 1099511627776) (k : K (.bool (decide (la = lb))) h) :
    CallA Try.prog fn_ref02_Same [slice a n ac, slice b m bc] h K := by
  refine F_ref02_Same _ _ _ _ _ _ _ _ ?_
  unfold F_ref02_SameT
  refine Br.intro (fun e => ?_) (fun e => ?_)
  · have : n ≠ m := by intro e2; subst e2; simp at e
    rw [decide_eq_false (fun x => this (by rw [← ha, ← hb, x]))] at k
    exact Ret.mk k
  · have : n = m := by simp at e; omega
    subst this
    refine same2_loop Ia Ib ha hb hs n 0 (by omega) ?_
    simpa using Ret.mk k
theorem lit_ok {l : List Int} {d : Bool} (e : (l.all fun x => decide (-9223372036854775808 ≤ x ∧ x ≤ 9223372036854775807)) = true) : allI64 l := fun x hx => by
  rw [List.all_eq_true] at e
  have := e x hx
  unfold I64
  simpa using this
theorem S_law02_awake (k : ∀ h', h.le h' → K (.bool true) h') : CallA Try.prog fn_law02_awake [] h K := by
  refine F_law02_awake _ _ ?_
  unfold F_law02_awakeT
  have i10 : I64 10 := by unfold I64; omega
  intro r1 e1
  have J1 : Ints .i64 (h.ins r1 (.cells [Value.int .i64 1, Value.int .i64 5, Value.int .i64 1].toArray 2 (0, 0))) (some ⟨r1, 0, none⟩) [1, 5, 1] := rdL_new _ _ _ _ _
  have m1 := @le_ins h r1 (.cells [Value.int .i64 1, Value.int .i64 5, Value.int .i64 1].toArray 2 (0, 0)) e1
  generalize h.ins r1 _ = h1 at *
  refine S_Shares J1 rfl (by omega) (lit_ok (d := true) (by decide)) i10 fun pa ca h2 l2 A => ⟨_, _, _, _, rfl, ?_⟩
  rw [vA] at A ⊢
  refine S_Even i10 fun pb cb h3 l3 B => ⟨_, _, _, _, rfl, ?_⟩
  rw [vB] at B ⊢
  intro r2 e2
  have J2 : Ints .i64 (h3.ins r2 (.cells [Value.int .i64 3, Value.int .i64 0, Value.int .i64 4].toArray 2 (0, 0))) (some ⟨r2, 0, none⟩) [3, 0, 4] := rdL_new _ _ _ _ _
  have m2 := @le_ins h3 r2 (.cells [Value.int .i64 3, Value.int .i64 0, Value.int .i64 4].toArray 2 (0, 0)) e2
  generalize h3.ins r2 _ = h4 at *
  refine S_FillS J2 rfl (by omega) (lit_ok (d := true) (by decide)) i10 fun pc cc h5 l5 C => ⟨_, _, _, _, _, rfl, ?_⟩
  rw [vC] at C ⊢
  intro r3 e3
  have J3 : Ints .i64 (h5.ins r3 (.cells [Value.int .i64 0].toArray 2 (0, 0))) (some ⟨r3, 0, none⟩) [0] := rdL_new _ _ _ _ _
  have m3 := @le_ins h5 r3 (.cells [Value.int .i64 0].toArray 2 (0, 0)) e3
  generalize h5.ins r3 _ = h6 at *
  refine S_Shares J3 rfl (by omega) (lit_ok (d := true) (by decide)) i10 fun pd cd h7 l7 D => ⟨_, _, _, _, rfl, ?_⟩
  rw [vD] at D ⊢
  refine S_Even (by unfold I64; omega) fun pe ce h8 l8 E => ⟨_, _, _, _, rfl, ?_⟩
  rw [vE] at E ⊢
  have l58 := Heap.le_trans m3 (Heap.le_trans l7 l8)
  have l38 := Heap.le_trans m2 (Heap.le_trans l5 l58)
  have l28 := Heap.le_trans l3 l38
  have l08 := Heap.le_trans m1 (Heap.le_trans l2 l28)
  have A8 := A.le l28
  have B8 := B.le l38
  have C8 := C.le l58
  intro s1 f1
  have Q1 : Ints .i64 (h8.ins s1 (.cells [Value.int .i64 2, Value.int .i64 7, Value.int .i64 1].toArray 2 (0, 0))) (some ⟨s1, 0, none⟩) [2, 7, 1] := rdL_new _ _ _ _ _
  have n1 := @le_ins h8 s1 (.cells [Value.int .i64 2, Value.int .i64 7, Value.int .i64 1].toArray 2 (0, 0)) f1
  generalize h8.ins s1 _ = h9 at *
  refine S_Same2 (A8.le n1) Q1 rfl rfl (by decide) ⟨_, rfl, Br.yes rfl (Br.yes rfl ?_)⟩
  intro s2 f2
  have Q2 : Ints .i64 (h9.ins s2 (.cells [Value.int .i64 4, Value.int .i64 3, Value.int .i64 3].toArray 2 (0, 0))) (some ⟨s2, 0, none⟩) [4, 3, 3] := rdL_new _ _ _ _ _
  have n2 := @le_ins h9 s2 (.cells [Value.int .i64 4, Value.int .i64 3, Value.int .i64 3].toArray 2 (0, 0)) f2
  generalize h9.ins s2 _ = h10 at *
  refine S_Same2 ((B8.le n1).le n2) Q2 rfl rfl (by decide) ⟨_, rfl, Br.yes rfl (Br.yes rfl ?_)⟩
  intro s3 f3
  have Q3 : Ints .i64 (h10.ins s3 (.cells [Value.int .i64 3, Value.int .i64 0, Value.int .i64 4].toArray 2 (0, 0))) (some ⟨s3, 0, none⟩) [3, 0, 4] := rdL_new _ _ _ _ _
  have n3 := @le_ins h10 s3 (.cells [Value.int .i64 3, Value.int .i64 0, Value.int .i64 4].toArray 2 (0, 0)) f3
  generalize h10.ins s3 _ = h11 at *
  refine S_Same2 (((C8.le n1).le n2).le n3) Q3 rfl rfl (by decide) ⟨_, rfl, Br.yes rfl (Br.yes rfl (Br.yes rfl (Br.yes rfl (Ret.mk ?_))))⟩
  exact k _ (Heap.le_trans l08 (Heap.le_trans n1 (Heap.le_trans n2 n3)))
end
end Go.Proofs.Ytghdadniddoboaa
