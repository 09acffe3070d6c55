import Derived.Test.YthojacmegofhcaaEqN
namespace Go.Proofs.Ythojacmegofhcaa
open Go Go.Sy Go.Value
set_option linter.unusedVariables false
def F_law01_awakeT (h : Heap) (K : Value → Heap → Prop) : Prop :=
  CallA Try.prog fn_money_Add [int IntKind.i64 4611686018427387904, int IntKind.i64 4611686018427387904] h fun (v : Value) (h : Heap) =>
  ∃ (n : Int),
    ∃ (n_1 : Int),
      v = tuple #[int IntKind.i64 n, int IntKind.i64 n_1] ∧
        CallA Try.prog fn_money_Sub [int IntKind.i64 (-9223372036854775808), int IntKind.i64 (-1)] h fun (v : Value) (h : Heap) =>
          ∃ (n_2 : Int),
            ∃ (n_3 : Int),
              v = tuple #[int IntKind.i64 n_2, int IntKind.i64 n_3] ∧
                CallA Try.prog fn_money_MulDiv [int IntKind.i64 (-7), int IntKind.i64 3, int IntKind.i64 2, Value.bool false] h fun (v : Value) (h : Heap) =>
                  ∃ (n_4 : Int),
                    ∃ (n_5 : Int),
                      v = tuple #[int IntKind.i64 n_4, int IntKind.i64 n_5] ∧
                        CallA Try.prog fn_money_MulDiv [int IntKind.i64 (-7), int IntKind.i64 3, int IntKind.i64 2, Value.bool true] h fun (v : Value) (h : Heap) =>
                          ∃ (n_6 : Int),
                            ∃ (n_7 : Int),
                              v = tuple #[int IntKind.i64 n_6, int IntKind.i64 n_7] ∧
                                CallA Try.prog fn_money_Mul [int IntKind.i64 1099511627776, int IntKind.i64 1073741824] h fun (v : Value) (h : Heap) =>
                                  ∃ (n_8 : Int),
                                    ∃ (n_9 : Int),
                                      v = tuple #[int IntKind.i64 n_8, int IntKind.i64 n_9] ∧
                                        CallA Try.prog fn_money_MulDiv [int IntKind.i64 1, int IntKind.i64 1, int IntKind.i64 0, Value.bool false] h fun (v : Value) (h : Heap) =>
                                          ∃ (n_10 : Int),
                                            ∃ (n_11 : Int),
                                              v = tuple #[int IntKind.i64 n_10, int IntKind.i64 n_11] ∧
                                                newB h [int IntKind.i64 9223372036854775807, int IntKind.i64 1, int IntKind.i64 (-5)] 2 fun (r : Nat) (h : Heap) =>
                                                  CallA Try.prog fn_money_Sum [slice (some { block := r, off := 0 }) 3 3] h fun (v : Value) (h : Heap) =>
                                                    ∃ (n_12 : Int),
                                                      ∃ (n_13 : Int),
                                                        v = tuple #[int IntKind.i64 n_12, int IntKind.i64 n_13] ∧
                                                          newB h [int IntKind.i64 1, int IntKind.i64 (-5)] 2 fun (r : Nat) (h : Heap) =>
                                                            CallA Try.prog fn_money_Chain [int IntKind.i64 9223372036854775807, slice (some { block := r, off := 0 }) 2 2] h fun (v : Value) (h : Heap) =>
                                                              ∃ (n_14 : Int),
                                                                ∃ (n_15 : Int),
                                                                  v = tuple #[int IntKind.i64 n_14, int IntKind.i64 n_15] ∧
                                                                    CallA Try.prog fn_money_Size [int IntKind.i64 (-7)] h fun (v : Value) (h : Heap) =>
                                                                      ∃ (n_16 : Int),
                                                                        ∃ (n_17 : Int),
                                                                          v = tuple #[int IntKind.i64 n_16, int IntKind.i64 n_17] ∧
                                                                            Br (n == 0)
                                                                              (Br (n_1 == 3)
                                                                                (Br (n_2 == -9223372036854775807)
                                                                                  (Br (n_3 == 0)
                                                                                    (Br (n_4 == -11)
                                                                                      (Br (n_5 == 0)
                                                                                        (Br (n_6 == -10)
                                                                                          (Br (n_7 == 0)
                                                                                            (Br (n_8 == 0)
                                                                                              (Br (n_9 == 3)
                                                                                                (Br (n_11 == 1)
                                                                                                  (Br (n_12 == 9223372036854775803)
                                                                                                    (Br (n_13 == 0)
                                                                                                      (Br (n_14 == 0)
                                                                                                        (Br (n_15 == 3) (Br (n_16 == 7) (Ret h K (Value.bool (n_17 == 0))) (Ret h K (Value.bool false)))
                                                                                                          (Ret h K (Value.bool false)))
                                                                                                        (Ret h K (Value.bool false)))
                                                                                                      (Ret h K (Value.bool false)))
                                                                                                    (Ret h K (Value.bool false)))
                                                                                                  (Ret h K (Value.bool false)))
                                                                                                (Ret h K (Value.bool false)))
                                                                                              (Ret h K (Value.bool false)))
                                                                                            (Ret h K (Value.bool false)))
                                                                                          (Ret h K (Value.bool false)))
                                                                                        (Ret h K (Value.bool false)))
                                                                                      (Ret h K (Value.bool false)))
                                                                                    (Ret h K (Value.bool false)))
                                                                                  (Ret h K (Value.bool false)))
                                                                                (Ret h K (Value.bool false)))
                                                                              (Ret h K (Value.bool false))
theorem F_law01_awake (h : Heap) (K : Value → Heap → Prop) (k : F_law01_awakeT h K) : CallA Try.prog fn_law01_awake [] h K :=
  CallA.of_ev Try.func24 (by kernel_rfl) (fun _ _ => Try.call24 _ _) mixed (by kernel_rfl) (by kernel_rfl) k
def F_law01_MoneyAboutT (a : Int) (b : Int) (c : Int) (h : Heap) (K : Value → Heap → Prop) : Prop :=
  CallA Try.prog fn_law01_awake [] h fun (v : Value) (h : Heap) =>
  ∃ (b_1 : Bool),
    v = Value.bool b_1 ∧
      Br (!b_1) (Ret h K (Value.bool false))
        (CallA Try.prog fn_money_MulDiv [int IntKind.i64 a, int IntKind.i64 b, int IntKind.i64 c, Value.bool false] h fun (v : Value) (h : Heap) =>
          ∃ (n : Int),
            ∃ (n_1 : Int),
              v = tuple #[int IntKind.i64 n, int IntKind.i64 n_1] ∧
                CallA Try.prog fn_money_MulDiv [int IntKind.i64 a, int IntKind.i64 b, int IntKind.i64 c, Value.bool true] h fun (v : Value) (h : Heap) =>
                  ∃ (n_2 : Int),
                    ∃ (n_3 : Int),
                      v = tuple #[int IntKind.i64 n_2, int IntKind.i64 n_3] ∧
                        Br (n_1 != 0)
                          (Br (n == 0) (Br (n_1 != 0) (Ret h K (Value.bool true)) (Br (n_2 == 0) (Ret h K (Value.bool (n_3 != 0))) (Ret h K (Value.bool false))))
                            (Br (n_2 == 0) (Ret h K (Value.bool (n_3 != 0))) (Ret h K (Value.bool false))))
                          (Br (n_3 != 0)
                            (Br (n == 0) (Br (n_1 != 0) (Ret h K (Value.bool true)) (Br (n_2 == 0) (Ret h K (Value.bool (n_3 != 0))) (Ret h K (Value.bool false))))
                              (Br (n_2 == 0) (Ret h K (Value.bool (n_3 != 0))) (Ret h K (Value.bool false))))
                            (CallA Try.prog fn_money_Mul [int IntKind.i64 a, int IntKind.i64 b] h fun (v : Value) (h : Heap) =>
                              ∃ (n_4 : Int),
                                ∃ (n_5 : Int),
                                  v = tuple #[int IntKind.i64 n_4, int IntKind.i64 n_5] ∧
                                    CallA Try.prog fn_money_Mul [int IntKind.i64 n, int IntKind.i64 c] h fun (v : Value) (h : Heap) =>
                                      ∃ (n_6 : Int),
                                        ∃ (n_7 : Int),
                                          v = tuple #[int IntKind.i64 n_6, int IntKind.i64 n_7] ∧
                                            Br (n_5 == 0)
                                              (Br (n_7 == 0)
                                                (Br (!(n_4 == n_6) == (n == n_2)) (Ret h K (Value.bool false))
                                                  (Br (decide (n_6 > n_4)) (Ret h K (Value.bool false))
                                                    (Br (a == -9223372036854775808)
                                                      (Br (IntKind.wrap IntKind.i64 (n_2 - n) == 0) (Ret h K (Value.bool true)) (Ret h K (Value.bool (IntKind.wrap IntKind.i64 (n_2 - n) == 1))))
                                                      (Br (n == -9223372036854775808)
                                                        (Br (IntKind.wrap IntKind.i64 (n_2 - n) == 0) (Ret h K (Value.bool true)) (Ret h K (Value.bool (IntKind.wrap IntKind.i64 (n_2 - n) == 1))))
                                                        (Br (n_2 == -9223372036854775808)
                                                          (Br (IntKind.wrap IntKind.i64 (n_2 - n) == 0) (Ret h K (Value.bool true)) (Ret h K (Value.bool (IntKind.wrap IntKind.i64 (n_2 - n) == 1))))
                                                          (CallA Try.prog fn_money_MulDiv [int IntKind.i64 (IntKind.wrap IntKind.i64 (0 - a)), int IntKind.i64 b, int IntKind.i64 c, Value.bool true] h
                                                            fun (v : Value) (h : Heap) =>
                                                            ∃ (n_8 : Int),
                                                              ∃ (n_9 : Int),
                                                                v = tuple #[int IntKind.i64 n_8, int IntKind.i64 n_9] ∧
                                                                  CallA Try.prog fn_money_MulDiv [int IntKind.i64 (IntKind.wrap IntKind.i64 (0 - a)), int IntKind.i64 b, int IntKind.i64 c, Value.bool false] h
                                                                    fun (v : Value) (h : Heap) =>
                                                                    ∃ (n_10 : Int),
                                                                      ∃ (n_11 : Int),
                                                                        v = tuple #[int IntKind.i64 n_10, int IntKind.i64 n_11] ∧
                                                                          Br (n_2 == n)
                                                                            (Br (n_9 == 0)
                                                                              (Br (n_11 == 0)
                                                                                (Br (n_8 == IntKind.wrap IntKind.i64 (0 - n)) (Ret h K (Value.bool (n_10 == IntKind.wrap IntKind.i64 (0 - n_2))))
                                                                                  (Ret h K (Value.bool false)))
                                                                                (Ret h K (Value.bool false)))
                                                                              (Ret h K (Value.bool false)))
                                                                            (Br (n_2 == IntKind.wrap IntKind.i64 (n + 1))
                                                                              (Br (n_9 == 0)
                                                                                (Br (n_11 == 0)
                                                                                  (Br (n_8 == IntKind.wrap IntKind.i64 (0 - n)) (Ret h K (Value.bool (n_10 == IntKind.wrap IntKind.i64 (0 - n_2))))
                                                                                    (Ret h K (Value.bool false)))
                                                                                  (Ret h K (Value.bool false)))
                                                                                (Ret h K (Value.bool false)))
                                                                              (Ret h K (Value.bool false)))))))))
                                                (Br (a == -9223372036854775808) (Br (IntKind.wrap IntKind.i64 (n_2 - n) == 0) (Ret h K (Value.bool true)) (Ret h K (Value.bool (IntKind.wrap IntKind.i64 (n_2 - n) == 1))))
                                                  (Br (n == -9223372036854775808)
                                                    (Br (IntKind.wrap IntKind.i64 (n_2 - n) == 0) (Ret h K (Value.bool true)) (Ret h K (Value.bool (IntKind.wrap IntKind.i64 (n_2 - n) == 1))))
                                                    (Br (n_2 == -9223372036854775808)
                                                      (Br (IntKind.wrap IntKind.i64 (n_2 - n) == 0) (Ret h K (Value.bool true)) (Ret h K (Value.bool (IntKind.wrap IntKind.i64 (n_2 - n) == 1))))
                                                      (CallA Try.prog fn_money_MulDiv [int IntKind.i64 (IntKind.wrap IntKind.i64 (0 - a)), int IntKind.i64 b, int IntKind.i64 c, Value.bool true] h fun (v : Value) (h : Heap) =>
                                                        ∃ (n_8 : Int),
                                                          ∃ (n_9 : Int),
                                                            v = tuple #[int IntKind.i64 n_8, int IntKind.i64 n_9] ∧
                                                              CallA Try.prog fn_money_MulDiv [int IntKind.i64 (IntKind.wrap IntKind.i64 (0 - a)), int IntKind.i64 b, int IntKind.i64 c, Value.bool false] h
                                                                fun (v : Value) (h : Heap) =>
                                                                ∃ (n_10 : Int),
                                                                  ∃ (n_11 : Int),
                                                                    v = tuple #[int IntKind.i64 n_10, int IntKind.i64 n_11] ∧
                                                                      Br (n_2 == n)
                                                                        (Br (n_9 == 0)
                                                                          (Br (n_11 == 0)
                                                                            (Br (n_8 == IntKind.wrap IntKind.i64 (0 - n)) (Ret h K (Value.bool (n_10 == IntKind.wrap IntKind.i64 (0 - n_2)))) (Ret h K (Value.bool false)))
                                                                            (Ret h K (Value.bool false)))
                                                                          (Ret h K (Value.bool false)))
                                                                        (Br (n_2 == IntKind.wrap IntKind.i64 (n + 1))
                                                                          (Br (n_9 == 0)
                                                                            (Br (n_11 == 0)
                                                                              (Br (n_8 == IntKind.wrap IntKind.i64 (0 - n)) (Ret h K (Value.bool (n_10 == IntKind.wrap IntKind.i64 (0 - n_2))))
                                                                                (Ret h K (Value.bool false)))
                                                                              (Ret h K (Value.bool false)))
                                                                            (Ret h K (Value.bool false)))
                                                                          (Ret h K (Value.bool false))))))))
                                              (Br (a == -9223372036854775808) (Br (IntKind.wrap IntKind.i64 (n_2 - n) == 0) (Ret h K (Value.bool true)) (Ret h K (Value.bool (IntKind.wrap IntKind.i64 (n_2 - n) == 1))))
                                                (Br (n == -9223372036854775808) (Br (IntKind.wrap IntKind.i64 (n_2 - n) == 0) (Ret h K (Value.bool true)) (Ret h K (Value.bool (IntKind.wrap IntKind.i64 (n_2 - n) == 1))))
                                                  (Br (n_2 == -9223372036854775808)
                                                    (Br (IntKind.wrap IntKind.i64 (n_2 - n) == 0) (Ret h K (Value.bool true)) (Ret h K (Value.bool (IntKind.wrap IntKind.i64 (n_2 - n) == 1))))
                                                    (CallA Try.prog fn_money_MulDiv [int IntKind.i64 (IntKind.wrap IntKind.i64 (0 - a)), int IntKind.i64 b, int IntKind.i64 c, Value.bool true] h fun (v : Value) (h : Heap) =>
                                                      ∃ (n_8 : Int),
                                                        ∃ (n_9 : Int),
                                                          v = tuple #[int IntKind.i64 n_8, int IntKind.i64 n_9] ∧
                                                            CallA Try.prog fn_money_MulDiv [int IntKind.i64 (IntKind.wrap IntKind.i64 (0 - a)), int IntKind.i64 b, int IntKind.i64 c, Value.bool false] h
                                                              fun (v : Value) (h : Heap) =>
                                                              ∃ (n_10 : Int),
                                                                ∃ (n_11 : Int),
                                                                  v = tuple #[int IntKind.i64 n_10, int IntKind.i64 n_11] ∧
                                                                    Br (n_2 == n)
                                                                      (Br (n_9 == 0)
                                                                        (Br (n_11 == 0)
                                                                          (Br (n_8 == IntKind.wrap IntKind.i64 (0 - n)) (Ret h K (Value.bool (n_10 == IntKind.wrap IntKind.i64 (0 - n_2)))) (Ret h K (Value.bool false)))
                                                                          (Ret h K (Value.bool false)))
                                                                        (Ret h K (Value.bool false)))
                                                                      (Br (n_2 == IntKind.wrap IntKind.i64 (n + 1))
                                                                        (Br (n_9 == 0)
                                                                          (Br (n_11 == 0)
                                                                            (Br (n_8 == IntKind.wrap IntKind.i64 (0 - n)) (Ret h K (Value.bool (n_10 == IntKind.wrap IntKind.i64 (0 - n_2)))) (Ret h K (Value.bool false)))
                                                                            (Ret h K (Value.bool false)))
                                                                          (Ret h K (Value.bool false)))
                                                                        (Ret h K (Value.bool false))))))))))
theorem F_law01_MoneyAbout (a : Int) (b : Int) (c : Int) (h : Heap) (K : Value → Heap → Prop) (k : F_law01_MoneyAboutT a b c h K) : CallA Try.prog fn_law01_MoneyAbout [int IntKind.i64 a, int IntKind.i64 b, int IntKind.i64 c] h K :=
  CallA.of_ev Try.func9 (by kernel_rfl) (fun _ _ => Try.call9 _ _) mixed (by kernel_rfl) (by kernel_rfl) k
end Go.Proofs.Ythojacmegofhcaa
