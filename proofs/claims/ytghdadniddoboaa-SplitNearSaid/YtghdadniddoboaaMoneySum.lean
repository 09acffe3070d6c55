/- What many amounts come to, all together and step by step; and that the calls of the awake test answer as they must. -/
import Derived.Test.YtghdadniddoboaaMoneySpec
namespace Go.Proofs.Ytghdadniddoboaa
open Go Go.Sy Go.Value
set_option linter.unusedVariables false
set_option linter.unusedSimpArgs false

def sumL : List Int → Int
  | [] => 0
  | n :: l => n + sumL l
theorem sumL_append : ∀ l m, sumL (l ++ m) = sumL l + sumL m
  | [], m => by simp [sumL]
  | n :: l, m => by simp only [List.cons_append, sumL, sumL_append l m]; omega
def allI64 (l : List Int) : Prop := ∀ n ∈ l, I64 n
theorem sum_take_succ {l : List Int} {i : Nat} (h : i < l.length) : sumL (l.take (i + 1)) = sumL (l.take i) + l[i] := by
  rw [List.take_add_one, sumL_append, List.getElem?_eq_getElem h]
  simp [sumL]
theorem sum_bound {l : List Int} (h : allI64 l) : ∀ i, i ≤ l.length → -(i : Int) * 9223372036854775808 ≤ sumL (l.take i) ∧ sumL (l.take i) ≤ (i : Int) * 9223372036854775808
  | 0, _ => by simp [sumL]
  | i + 1, hi => by
    obtain ⟨h1, h2⟩ := sum_bound h i (by omega)
    rw [sum_take_succ (by omega)]
    have := h _ (List.getElem_mem (show i < l.length by omega))
    unfold I64 at this
    omega
/-- the rest of a sum, from a place on -/
theorem sum_loop {l : List Int} (hl : l.length ≤ 1048576) (hI : allI64 l) {a : Option Addr} {c : Nat} (h : Heap) (hr : Ints .i64 h a l) (K : Value → Heap → Prop)
    (k : K (tuple #[int .i64 (fit (sumL l)).1, int .i64 (fit (sumL l)).2]) h) : ∀ (d i : Nat), i + d = l.length →
    L_money_Sum_0 (sumL (l.take i) / 18446744073709551616) (sumL (l.take i) % 18446744073709551616) a l.length c (l.length : Int) (i : Int) h K := by
  intro d
  induction d with
  | zero =>
    intro i hi
    refine L_money_Sum_0r _ _ _ _ _ _ _ _ _ ?_
    unfold L_money_Sum_0T
    have hb := sum_bound hI i (by omega)
    have e : l.take i = l := List.take_of_length_le (by omega)
    rw [e] at hb ⊢
    refine Br.no (decide_eq_false (by omega)) ?_
    have f : ∀ x : Int, Int.fdiv x 9223372036854775808 = x / 9223372036854775808 := fun x => fdiv_pos x (by omega)
    rw [f, wrap_i64]
    generalize sumL l = s at *
    refine Br.intro (fun e1 => Ret.mk ?_) (fun e1 => Ret.mk ?_)
    · rw [fit_over] at k
      · exact k
      · simp only [bne_iff_ne, ne_eq] at e1
        unfold I64
        omega
    · simp only [bne_eq_false_iff_eq] at e1
      rw [fit_ok (by unfold I64; omega)] at k
      rw [show (s % 18446744073709551616 + 9223372036854775808) % 18446744073709551616 - 9223372036854775808 = s from by omega]
      exact k
  | succ d ih =>
    intro i hi
    refine L_money_Sum_0r _ _ _ _ _ _ _ _ _ ?_
    unfold L_money_Sum_0T
    have hlt : i < l.length := by omega
    have hb := sum_bound hI i (by omega)
    have nx := ih (i + 1) (by omega)
    rw [sum_take_succ hlt] at nx
    have hn := hI _ (List.getElem_mem hlt)
    obtain ⟨b, o, ea, hc⟩ := hr.at hlt
    refine Br.yes (decide_eq_true (by omega)) ⟨by omega, by omega, withAddr_intro ea ⟨_, by rw [Int.toNat_natCast]; exact hc, ?_⟩⟩
    have f : ∀ x : Int, Int.fdiv x 9223372036854775808 = x / 9223372036854775808 := fun x => fdiv_pos x (by omega)
    simp only [f, wrap_u64, wrap_i64]
    unfold I64 at hn
    generalize l[i] = x at *
    generalize hS : sumL (l.take i) = s at *
    have cnt : ((i : Int) + 1 + 9223372036854775808) % 18446744073709551616 - 9223372036854775808 = ((i + 1 : Nat) : Int) := by omega
    have lo : (s % 18446744073709551616 + x % 18446744073709551616) % 18446744073709551616 = (s + x) % 18446744073709551616 := by omega
    simp only [cnt, lo]
    refine Br.dec (fun hlt2 => ?_) (fun hge => ?_)
    · have hi2 : (((s / 18446744073709551616 + 1 + 9223372036854775808) % 18446744073709551616 - 9223372036854775808) + x / 9223372036854775808 + 9223372036854775808) % 18446744073709551616 - 9223372036854775808 = (s + x) / 18446744073709551616 := by omega
      rw [hi2]; exact nx
    · have hi2 : (s / 18446744073709551616 + x / 9223372036854775808 + 9223372036854775808) % 18446744073709551616 - 9223372036854775808 = (s + x) / 18446744073709551616 := by omega
      rw [hi2]; exact nx
theorem S_Sum {l : List Int} (hl : l.length ≤ 1048576) (hI : allI64 l) {a : Option Addr} {c : Nat} (h : Heap) (hr : Ints .i64 h a l) (K : Value → Heap → Prop)
    (k : K (tuple #[int .i64 (fit (sumL l)).1, int .i64 (fit (sumL l)).2]) h) : CallA Try.prog fn_money_Sum [slice a l.length c] h K := by
  refine F_money_Sum _ _ _ _ _ ?_
  unfold F_money_SumT
  have := sum_loop hl hI (c := c) h hr K k l.length 0 (by omega)
  simpa [sumL] using this

/-- step by step -/
def chainL : Int → List Int → Int × Int
  | a, [] => (a, 0)
  | a, b :: l => if -9223372036854775808 ≤ a + b ∧ a + b ≤ 9223372036854775807 then chainL (a + b) l else (0, 3)
theorem chain_loop {l : List Int} (hl : l.length ≤ 1048576) (hI : allI64 l) {a : Option Addr} {c : Nat} (h : Heap) (hr : Ints .i64 h a l) (K : Value → Heap → Prop) : ∀ (d i : Nat) (n : Int), i + d = l.length → I64 n →
    K (tuple #[int .i64 (chainL n (l.drop i)).1, int .i64 (chainL n (l.drop i)).2]) h → L_money_Chain_0 n a l.length c (l.length : Int) (i : Int) h K := by
  intro d
  induction d with
  | zero =>
    intro i n hi hn k
    refine L_money_Chain_0r _ _ _ _ _ _ _ _ ?_
    unfold L_money_Chain_0T
    rw [List.drop_of_length_le (by omega)] at k
    exact Br.no (decide_eq_false (by omega)) (Ret.mk k)
  | succ d ih =>
    intro i n hi hn k
    refine L_money_Chain_0r _ _ _ _ _ _ _ _ ?_
    unfold L_money_Chain_0T
    have hlt : i < l.length := by omega
    have hx := hI _ (List.getElem_mem hlt)
    obtain ⟨b, o, ea, hc⟩ := hr.at hlt
    rw [List.drop_eq_getElem_cons hlt] at k
    unfold chainL at k
    refine Br.yes (decide_eq_true (by omega)) ⟨by omega, by omega, withAddr_intro ea ⟨_, by rw [Int.toNat_natCast]; exact hc, ?_⟩⟩
    refine S_Add hn hx h _ ⟨_, _, rfl, ?_⟩
    have cnt : IntKind.wrap .i64 ((i : Int) + 1) = ((i + 1 : Nat) : Int) := by rw [wrap_i64]; omega
    rw [cnt]
    by_cases ho : I64 (n + l[i])
    · rw [fit_ok ho]
      have ho' : -9223372036854775808 ≤ n + l[i] ∧ n + l[i] ≤ 9223372036854775807 := ho
      rw [if_pos ho'] at k
      exact Br.no rfl (ih (i + 1) _ (by omega) ho k)
    · rw [fit_over ho]
      have ho' : ¬ (-9223372036854775808 ≤ n + l[i] ∧ n + l[i] ≤ 9223372036854775807) := ho
      rw [if_neg ho'] at k
      exact Br.yes rfl (Ret.mk k)
theorem S_Chain {l : List Int} (hl : l.length ≤ 1048576) (hI : allI64 l) {n : Int} (hn : I64 n) {a : Option Addr} {c : Nat} (h : Heap) (hr : Ints .i64 h a l) (K : Value → Heap → Prop)
    (k : K (tuple #[int .i64 (chainL n l).1, int .i64 (chainL n l).2]) h) : CallA Try.prog fn_money_Chain [int .i64 n, slice a l.length c] h K := by
  refine F_money_Chain _ _ _ _ _ _ ?_
  unfold F_money_ChainT
  have := chain_loop hl hI (c := c) h hr K l.length 0 n (by omega) hn (by simpa using k)
  simpa using this
end Go.Proofs.Ytghdadniddoboaa
