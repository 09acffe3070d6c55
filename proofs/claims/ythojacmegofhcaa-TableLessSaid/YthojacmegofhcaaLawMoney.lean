/- The laws of layer 1 that ask for no reference: what they call, and that they answer true. -/
import Derived.Test.YthojacmegofhcaaMoneySum
import Derived.Test.YthojacmegofhcaaEqLaw01
namespace Go.Proofs.Ythojacmegofhcaa
open Go Go.Sy Go.Value
set_option linter.unusedVariables false
set_option linter.unusedSimpArgs false

theorem S_law01_awake (h : Heap) (K : Value → Heap → Prop) (k : K (.bool true) h) : CallA Try.prog fn_law01_awake [] h K := by
  refine F_law01_awake _ _ ?_
  unfold F_law01_awakeT
  have i64 : ∀ n : Int, -9223372036854775808 ≤ n → n ≤ 9223372036854775807 → I64 n := fun n a b => ⟨a, b⟩
  refine S_Add (i64 _ (by decide) (by decide)) (i64 _ (by decide) (by decide)) h _ ⟨_, _, rfl, ?_⟩
  refine S_Sub (i64 _ (by decide) (by decide)) (i64 _ (by decide) (by decide)) h _ ⟨_, _, rfl, ?_⟩
  refine S_MulDiv (i64 _ (by decide) (by decide)) (i64 _ (by decide) (by decide)) (i64 _ (by decide) (by decide)) _ h _ ⟨_, _, rfl, ?_⟩
  refine S_MulDiv (i64 _ (by decide) (by decide)) (i64 _ (by decide) (by decide)) (i64 _ (by decide) (by decide)) _ h _ ⟨_, _, rfl, ?_⟩
  refine S_Mul (i64 _ (by decide) (by decide)) (i64 _ (by decide) (by decide)) h _ ⟨_, _, rfl, ?_⟩
  refine S_MulDiv (i64 _ (by decide) (by decide)) (i64 _ (by decide) (by decide)) (i64 _ (by decide) (by decide)) _ h _ ⟨_, _, rfl, ?_⟩
  intro r hr
  have z1 : Ints .i64 (h.ins r (.cells [int .i64 9223372036854775807, int .i64 1, int .i64 (-5)].toArray 2 (0, 0))) (some ⟨r, 0, none⟩) [9223372036854775807, 1, -5] := rdL_new _ _ _ _ _
  refine S_Sum (l := [9223372036854775807, 1, -5]) (by decide) (by intro n hn; simp at hn; unfold I64; omega) _ z1 _ ⟨_, _, rfl, ?_⟩
  intro r2 hr2
  have z2 : Ints .i64 (Heap.ins (h.ins r (.cells [int .i64 9223372036854775807, int .i64 1, int .i64 (-5)].toArray 2 (0, 0))) r2 (.cells [int .i64 1, int .i64 (-5)].toArray 2 (0, 0))) (some ⟨r2, 0, none⟩) [1, -5] := rdL_new _ _ _ _ _
  refine S_Chain (l := [1, -5]) (by decide) (by intro n hn; simp at hn; unfold I64; omega) (i64 _ (by decide) (by decide)) _ z2 _ ⟨_, _, rfl, ?_⟩
  refine S_Size (i64 _ (by decide) (by decide)) _ _ ⟨_, _, rfl, ?_⟩
  have fin : ∀ h', h.le h' → Ret h' K (.bool true) := fun h' l => ⟨h, l, k⟩
  exact fin _ (Heap.le_trans (le_ins hr) (le_ins hr2))

theorem law01_MoneyAbout_ok {a b c : Int} (ha : I64 a) (hb : I64 b) (hc : I64 c) (h : Heap) :
    CallA Try.prog fn_law01_MoneyAbout [int .i64 a, int .i64 b, int .i64 c] h fun v h' => v = .bool true ∧ h.le h' := by
  refine F_law01_MoneyAbout _ _ _ _ _ ?_
  unfold F_law01_MoneyAboutT
  refine S_law01_awake h _ ⟨_, rfl, Br.no rfl ?_⟩
  refine S_MulDiv ha hb hc false h _ ⟨_, _, rfl, S_MulDiv ha hb hc true h _ ⟨_, _, rfl, ?_⟩⟩
  have fin : Ret h (fun v h' => v = .bool true ∧ h.le h') (.bool true) := Ret.mk ⟨rfl, h.le_refl⟩
  by_cases hc1 : c < 1
  · have e : ∀ up, md a b c up = (0, 1) := fun up => by unfold md; rw [if_pos hc1]
    rw [e, e]
    exact fin
  have e : ∀ x up, md x b c up = fit (dv (x * b) c up) := fun x up => by unfold md; rw [if_neg hc1]
  rw [e, e]
  have efl : dv (a * b) c false = a * b / c := by unfold dv; simp
  have ece : dv (a * b) c true = -((-(a * b)) / c) := by unfold dv; simp
  -- the two whole numbers about the quotient
  have hpos : 0 < c := by omega
  have h1 := Int.mul_ediv_add_emod (a * b) c
  have h2 := Int.emod_nonneg (a * b) (show c ≠ 0 by omega)
  have h3 := Int.emod_lt_of_pos (a * b) hpos
  have about : ((a * b) % c = 0 ∧ -((-(a * b)) / c) = a * b / c) ∨ ((a * b) % c ≠ 0 ∧ -((-(a * b)) / c) = a * b / c + 1) := by
    by_cases hz : (a * b) % c = 0
    · exact .inl ⟨hz, by rw [ediv_neg_of0 hpos hz]; omega⟩
    · exact .inr ⟨hz, by rw [ediv_neg_of hpos hz]; omega⟩
  have eu : dv (-a * b) c true = -(a * b / c) := by unfold dv; simp [Int.neg_mul]
  have ev : dv (-a * b) c false = (-(a * b)) / c := by unfold dv; simp [Int.neg_mul]
  rw [efl, ece]
  have hmulc : a * b / c * c = c * (a * b / c) := Int.mul_comm _ _
  generalize hx : a * b / c = x at *
  generalize hy : (-(a * b)) / c = y' at *
  by_cases fx : I64 x
  case neg => rw [fit_over fx]; exact fin
  rw [fit_ok fx]
  by_cases fy : I64 (-y')
  case neg =>
    rw [fit_over fy]
    refine Br.no rfl (Br.yes rfl ?_)
    exact Br.intro (fun _ => fin) (fun _ => fin)
  rw [fit_ok fy]
  refine Br.no rfl (Br.no rfl ?_)
  refine S_Mul ha hb h _ ⟨_, _, rfl, S_Mul fx hc h _ ⟨_, _, rfl, ?_⟩⟩
  generalize hab : a * b = p at *
  generalize hxc : x * c = q at *
  obtain ⟨fx1, fx2⟩ := fx
  obtain ⟨fy1, fy2⟩ := fy
  obtain ⟨ha1, ha2⟩ := ha
  have rest : Br (a == -9223372036854775808)
      (Br (IntKind.wrap IntKind.i64 (-y' - x) == 0) (Ret h (fun v h' => v = .bool true ∧ h.le h') (Value.bool true)) (Ret h (fun v h' => v = .bool true ∧ h.le h') (Value.bool (IntKind.wrap IntKind.i64 (-y' - x) == 1))))
      (Br (x == -9223372036854775808)
        (Br (IntKind.wrap IntKind.i64 (-y' - x) == 0) (Ret h (fun v h' => v = .bool true ∧ h.le h') (Value.bool true)) (Ret h (fun v h' => v = .bool true ∧ h.le h') (Value.bool (IntKind.wrap IntKind.i64 (-y' - x) == 1))))
        (Br (-y' == -9223372036854775808)
          (Br (IntKind.wrap IntKind.i64 (-y' - x) == 0) (Ret h (fun v h' => v = .bool true ∧ h.le h') (Value.bool true)) (Ret h (fun v h' => v = .bool true ∧ h.le h') (Value.bool (IntKind.wrap IntKind.i64 (-y' - x) == 1))))
          (CallA Try.prog fn_money_MulDiv [int IntKind.i64 (IntKind.wrap IntKind.i64 (0 - a)), int IntKind.i64 b, int IntKind.i64 c, Value.bool true] h fun v h_1 =>
            ∃ n n_1, v = tuple #[int IntKind.i64 n, int IntKind.i64 n_1] ∧
              CallA Try.prog fn_money_MulDiv [int IntKind.i64 (IntKind.wrap IntKind.i64 (0 - a)), int IntKind.i64 b, int IntKind.i64 c, Value.bool false] h_1 fun v h_2 =>
                ∃ n_2 n_3, v = tuple #[int IntKind.i64 n_2, int IntKind.i64 n_3] ∧
                  Br (-y' == x)
                    (Br (n_1 == 0) (Br (n_3 == 0) (Br (n == IntKind.wrap IntKind.i64 (0 - x)) (Ret h_2 (fun v h' => v = .bool true ∧ h.le h') (Value.bool (n_2 == IntKind.wrap IntKind.i64 (0 - -y')))) (Ret h_2 (fun v h' => v = .bool true ∧ h.le h') (Value.bool false)))
                        (Ret h_2 (fun v h' => v = .bool true ∧ h.le h') (Value.bool false))) (Ret h_2 (fun v h' => v = .bool true ∧ h.le h') (Value.bool false)))
                    (Br (-y' == IntKind.wrap IntKind.i64 (x + 1))
                      (Br (n_1 == 0) (Br (n_3 == 0) (Br (n == IntKind.wrap IntKind.i64 (0 - x)) (Ret h_2 (fun v h' => v = .bool true ∧ h.le h') (Value.bool (n_2 == IntKind.wrap IntKind.i64 (0 - -y')))) (Ret h_2 (fun v h' => v = .bool true ∧ h.le h') (Value.bool false)))
                          (Ret h_2 (fun v h' => v = .bool true ∧ h.le h') (Value.bool false))) (Ret h_2 (fun v h' => v = .bool true ∧ h.le h') (Value.bool false)))
                      (Ret h_2 (fun v h' => v = .bool true ∧ h.le h') (Value.bool false)))))) := by
    have small : Br (IntKind.wrap IntKind.i64 (-y' - x) == 0) (Ret h (fun v h' => v = .bool true ∧ h.le h') (Value.bool true)) (Ret h (fun v h' => v = .bool true ∧ h.le h') (Value.bool (IntKind.wrap IntKind.i64 (-y' - x) == 1))) := by
      rw [wrap_i64_id (by omega) (by omega)]
      refine Br.intro (fun _ => fin) (fun e0 => ?_)
      have : -y' - x = 1 := by simp only [beq_eq_false_iff_ne] at e0; omega
      rw [this]; exact fin
    refine Br.intro (fun _ => small) (fun e1 => Br.intro (fun _ => small) (fun e2 => Br.intro (fun _ => small) (fun e3 => ?_)))
    simp only [beq_eq_false_iff_ne] at e1 e2 e3
    rw [wrap_i64_id (n := 0 - a) (by omega) (by omega)]
    have hna : I64 (0 - a) := ⟨by omega, by omega⟩
    have em : 0 - a = -a := by omega
    refine S_MulDiv hna hb hc true h _ ⟨_, _, rfl, S_MulDiv hna hb hc false h _ ⟨_, _, rfl, ?_⟩⟩
    rw [em, e, e, eu, ev]
    rw [fit_ok ⟨by omega, by omega⟩, fit_ok ⟨by omega, by omega⟩]
    rw [wrap_i64_id (n := 0 - x) (by omega) (by omega), wrap_i64_id (n := 0 - -y') (by omega) (by omega)]
    have f1 : (-x == 0 - x) = true := by simp
    have f2 : (y' == 0 - -y') = true := by simp
    rw [f2]
    refine Br.intro (fun _ => Br.yes rfl (Br.yes rfl (Br.yes f1 fin))) (fun e4 => Br.yes ?_ (Br.yes rfl (Br.yes rfl (Br.yes f1 fin))))
    simp only [beq_eq_false_iff_ne] at e4
    rw [wrap_i64_id (by omega) (by omega)]
    simp; omega
  by_cases fp : I64 p
  case neg => rw [fit_over fp]; exact Br.no rfl rest
  rw [fit_ok fp]
  refine Br.yes rfl ?_
  by_cases fq : I64 q
  case neg => rw [fit_over fq]; exact Br.no rfl rest
  rw [fit_ok fq]
  refine Br.yes rfl (Br.no ?_ (Br.no ?_ rest))
  · rcases about with ⟨z1, z2⟩ | ⟨z1, z2⟩
    · have e1 : (p == q) = true := by simp; omega
      have e2 : (x == -y') = true := by simp; omega
      simp [e1, e2]
    · have e1 : (p == q) = false := by simp; omega
      have e2 : (x == -y') = false := by simp; omega
      simp [e1, e2]
  · simp; omega
end Go.Proofs.Ythojacmegofhcaa
