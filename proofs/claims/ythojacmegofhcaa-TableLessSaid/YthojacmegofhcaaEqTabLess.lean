import Derived.Test.YthojacmegofhcaaEqN
namespace Go.Proofs.Ythojacmegofhcaa
open Go Go.Sy Go.Value
set_option linter.unusedVariables false
def F_law03_TableLessT (t : Option Addr) (tn : Nat) (tc : Nat) (cur : Int) (a : Int) (b : Int) (h : Heap) (K : Value → Heap → Prop) : Prop :=
  CallA Try.prog fn_law03_awake [] h fun (v : Value) (h : Heap) =>
  ∃ (b_1 : Bool),
    v = Value.bool b_1 ∧
      Br (!b_1) (Ret h K (Value.bool false))
        (CallA Try.prog fn_law03_large [slice t tn tc] h fun (v : Value) (h : Heap) =>
          ∃ (b_2 : Bool),
            v = Value.bool b_2 ∧
              Br b_2 (Ret h K (Value.bool true))
                (CallA Try.prog fn_table_Check [slice t tn tc] h fun (v : Value) (h : Heap) =>
                  ∃ (n : Int),
                    v = int IntKind.i64 n ∧
                      Br (n != 0) (Ret h K (Value.bool true))
                        (Br (decide (cur < 0)) (Ret h K (Value.bool true))
                          (Br (decide (cur ≥ (↑tn : Int))) (Ret h K (Value.bool true))
                            (CallA Try.prog fn_table_Worth [slice t tn tc, int IntKind.i64 cur, int IntKind.i64 a] h fun (v : Value) (h : Heap) =>
                              ∃ (n : Int),
                                ∃ (n_1 : Int),
                                  v = tuple #[int IntKind.i64 n, int IntKind.i64 n_1] ∧
                                    CallA Try.prog fn_table_Worth [slice t tn tc, int IntKind.i64 cur, int IntKind.i64 b] h fun (v : Value) (h : Heap) =>
                                      ∃ (n_2 : Int),
                                        ∃ (n_3 : Int),
                                          v = tuple #[int IntKind.i64 n_2, int IntKind.i64 n_3] ∧
                                            CallA Try.prog fn_table_Plain [slice t tn tc, int IntKind.i64 cur, int IntKind.i64 a] h fun (v : Value) (h : Heap) =>
                                              ∃ (n_4 : Int),
                                                ∃ (n_5 : Int),
                                                  v = tuple #[int IntKind.i64 n_4, int IntKind.i64 n_5] ∧
                                                    Br (n_1 == 0)
                                                      (Br (n_5 == 0)
                                                        (Br (decide (n > n_4)) (Ret h K (Value.bool false))
                                                          (Br (n_1 != 0) (Ret h K (Value.bool true))
                                                            (Br (n_3 != 0) (Ret h K (Value.bool true))
                                                              (Br (decide (a < b))
                                                                (Br (decide (n > n_2)) (Ret h K (Value.bool false))
                                                                  (Br (decide (a > b))
                                                                    (Br (decide (n < n_2)) (Ret h K (Value.bool false))
                                                                      (Br (a == b)
                                                                        (Br (n != n_2) (Ret h K (Value.bool false))
                                                                          (CallA Try.prog fn_money_Add [int IntKind.i64 a, int IntKind.i64 b] h fun (v : Value) (h : Heap) =>
                                                                            ∃ (n_6 : Int),
                                                                              ∃ (n_7 : Int),
                                                                                v = tuple #[int IntKind.i64 n_6, int IntKind.i64 n_7] ∧
                                                                                  CallA Try.prog fn_money_Add [int IntKind.i64 n, int IntKind.i64 n_2] h fun (v : Value) (h : Heap) =>
                                                                                    ∃ (n : Int),
                                                                                      ∃ (n_8 : Int),
                                                                                        v = tuple #[int IntKind.i64 n, int IntKind.i64 n_8] ∧
                                                                                          CallA Try.prog fn_table_Worth [slice t tn tc, int IntKind.i64 cur, int IntKind.i64 n_6] h fun (v : Value) (h : Heap) =>
                                                                                            ∃ (n_9 : Int),
                                                                                              ∃ (n_10 : Int),
                                                                                                v = tuple #[int IntKind.i64 n_9, int IntKind.i64 n_10] ∧
                                                                                                  Br (n_7 != 0) (Ret h K (Value.bool true))
                                                                                                    (Br (n_8 != 0) (Ret h K (Value.bool true))
                                                                                                      (Br (n_10 != 0) (Ret h K (Value.bool true))
                                                                                                        (Br (decide (n_9 ≥ n))
                                                                                                          (Br (!decide (a < 0) == decide (b < 0)) (Ret h K (Value.bool true))
                                                                                                            (Br (n_9 == n) (Ret h K (Value.bool true)) (Ret h K (Value.bool (n_9 == IntKind.wrap IntKind.i64 (n + 1))))))
                                                                                                          (Ret h K (Value.bool false)))))))
                                                                        (CallA Try.prog fn_money_Add [int IntKind.i64 a, int IntKind.i64 b] h fun (v : Value) (h : Heap) =>
                                                                          ∃ (n_6 : Int),
                                                                            ∃ (n_7 : Int),
                                                                              v = tuple #[int IntKind.i64 n_6, int IntKind.i64 n_7] ∧
                                                                                CallA Try.prog fn_money_Add [int IntKind.i64 n, int IntKind.i64 n_2] h fun (v : Value) (h : Heap) =>
                                                                                  ∃ (n : Int),
                                                                                    ∃ (n_8 : Int),
                                                                                      v = tuple #[int IntKind.i64 n, int IntKind.i64 n_8] ∧
                                                                                        CallA Try.prog fn_table_Worth [slice t tn tc, int IntKind.i64 cur, int IntKind.i64 n_6] h fun (v : Value) (h : Heap) =>
                                                                                          ∃ (n_9 : Int),
                                                                                            ∃ (n_10 : Int),
                                                                                              v = tuple #[int IntKind.i64 n_9, int IntKind.i64 n_10] ∧
                                                                                                Br (n_7 != 0) (Ret h K (Value.bool true))
                                                                                                  (Br (n_8 != 0) (Ret h K (Value.bool true))
                                                                                                    (Br (n_10 != 0) (Ret h K (Value.bool true))
                                                                                                      (Br (decide (n_9 ≥ n))
                                                                                                        (Br (!decide (a < 0) == decide (b < 0)) (Ret h K (Value.bool true))
                                                                                                          (Br (n_9 == n) (Ret h K (Value.bool true)) (Ret h K (Value.bool (n_9 == IntKind.wrap IntKind.i64 (n + 1))))))
                                                                                                        (Ret h K (Value.bool false))))))))
                                                                    (Br (a == b)
                                                                      (Br (n != n_2) (Ret h K (Value.bool false))
                                                                        (CallA Try.prog fn_money_Add [int IntKind.i64 a, int IntKind.i64 b] h fun (v : Value) (h : Heap) =>
                                                                          ∃ (n_6 : Int),
                                                                            ∃ (n_7 : Int),
                                                                              v = tuple #[int IntKind.i64 n_6, int IntKind.i64 n_7] ∧
                                                                                CallA Try.prog fn_money_Add [int IntKind.i64 n, int IntKind.i64 n_2] h fun (v : Value) (h : Heap) =>
                                                                                  ∃ (n : Int),
                                                                                    ∃ (n_8 : Int),
                                                                                      v = tuple #[int IntKind.i64 n, int IntKind.i64 n_8] ∧
                                                                                        CallA Try.prog fn_table_Worth [slice t tn tc, int IntKind.i64 cur, int IntKind.i64 n_6] h fun (v : Value) (h : Heap) =>
                                                                                          ∃ (n_9 : Int),
                                                                                            ∃ (n_10 : Int),
                                                                                              v = tuple #[int IntKind.i64 n_9, int IntKind.i64 n_10] ∧
                                                                                                Br (n_7 != 0) (Ret h K (Value.bool true))
                                                                                                  (Br (n_8 != 0) (Ret h K (Value.bool true))
                                                                                                    (Br (n_10 != 0) (Ret h K (Value.bool true))
                                                                                                      (Br (decide (n_9 ≥ n))
                                                                                                        (Br (!decide (a < 0) == decide (b < 0)) (Ret h K (Value.bool true))
                                                                                                          (Br (n_9 == n) (Ret h K (Value.bool true)) (Ret h K (Value.bool (n_9 == IntKind.wrap IntKind.i64 (n + 1))))))
                                                                                                        (Ret h K (Value.bool false)))))))
                                                                      (CallA Try.prog fn_money_Add [int IntKind.i64 a, int IntKind.i64 b] h fun (v : Value) (h : Heap) =>
                                                                        ∃ (n_6 : Int),
                                                                          ∃ (n_7 : Int),
                                                                            v = tuple #[int IntKind.i64 n_6, int IntKind.i64 n_7] ∧
                                                                              CallA Try.prog fn_money_Add [int IntKind.i64 n, int IntKind.i64 n_2] h fun (v : Value) (h : Heap) =>
                                                                                ∃ (n : Int),
                                                                                  ∃ (n_8 : Int),
                                                                                    v = tuple #[int IntKind.i64 n, int IntKind.i64 n_8] ∧
                                                                                      CallA Try.prog fn_table_Worth [slice t tn tc, int IntKind.i64 cur, int IntKind.i64 n_6] h fun (v : Value) (h : Heap) =>
                                                                                        ∃ (n_9 : Int),
                                                                                          ∃ (n_10 : Int),
                                                                                            v = tuple #[int IntKind.i64 n_9, int IntKind.i64 n_10] ∧
                                                                                              Br (n_7 != 0) (Ret h K (Value.bool true))
                                                                                                (Br (n_8 != 0) (Ret h K (Value.bool true))
                                                                                                  (Br (n_10 != 0) (Ret h K (Value.bool true))
                                                                                                    (Br (decide (n_9 ≥ n))
                                                                                                      (Br (!decide (a < 0) == decide (b < 0)) (Ret h K (Value.bool true))
                                                                                                        (Br (n_9 == n) (Ret h K (Value.bool true)) (Ret h K (Value.bool (n_9 == IntKind.wrap IntKind.i64 (n + 1))))))
                                                                                                      (Ret h K (Value.bool false)))))))))
                                                                (Br (decide (a > b))
                                                                  (Br (decide (n < n_2)) (Ret h K (Value.bool false))
                                                                    (Br (a == b)
                                                                      (Br (n != n_2) (Ret h K (Value.bool false))
                                                                        (CallA Try.prog fn_money_Add [int IntKind.i64 a, int IntKind.i64 b] h fun (v : Value) (h : Heap) =>
                                                                          ∃ (n_6 : Int),
                                                                            ∃ (n_7 : Int),
                                                                              v = tuple #[int IntKind.i64 n_6, int IntKind.i64 n_7] ∧
                                                                                CallA Try.prog fn_money_Add [int IntKind.i64 n, int IntKind.i64 n_2] h fun (v : Value) (h : Heap) =>
                                                                                  ∃ (n : Int),
                                                                                    ∃ (n_8 : Int),
                                                                                      v = tuple #[int IntKind.i64 n, int IntKind.i64 n_8] ∧
                                                                                        CallA Try.prog fn_table_Worth [slice t tn tc, int IntKind.i64 cur, int IntKind.i64 n_6] h fun (v : Value) (h : Heap) =>
                                                                                          ∃ (n_9 : Int),
                                                                                            ∃ (n_10 : Int),
                                                                                              v = tuple #[int IntKind.i64 n_9, int IntKind.i64 n_10] ∧
                                                                                                Br (n_7 != 0) (Ret h K (Value.bool true))
                                                                                                  (Br (n_8 != 0) (Ret h K (Value.bool true))
                                                                                                    (Br (n_10 != 0) (Ret h K (Value.bool true))
                                                                                                      (Br (decide (n_9 ≥ n))
                                                                                                        (Br (!decide (a < 0) == decide (b < 0)) (Ret h K (Value.bool true))
                                                                                                          (Br (n_9 == n) (Ret h K (Value.bool true)) (Ret h K (Value.bool (n_9 == IntKind.wrap IntKind.i64 (n + 1))))))
                                                                                                        (Ret h K (Value.bool false)))))))
                                                                      (CallA Try.prog fn_money_Add [int IntKind.i64 a, int IntKind.i64 b] h fun (v : Value) (h : Heap) =>
                                                                        ∃ (n_6 : Int),
                                                                          ∃ (n_7 : Int),
                                                                            v = tuple #[int IntKind.i64 n_6, int IntKind.i64 n_7] ∧
                                                                              CallA Try.prog fn_money_Add [int IntKind.i64 n, int IntKind.i64 n_2] h fun (v : Value) (h : Heap) =>
                                                                                ∃ (n : Int),
                                                                                  ∃ (n_8 : Int),
                                                                                    v = tuple #[int IntKind.i64 n, int IntKind.i64 n_8] ∧
                                                                                      CallA Try.prog fn_table_Worth [slice t tn tc, int IntKind.i64 cur, int IntKind.i64 n_6] h fun (v : Value) (h : Heap) =>
                                                                                        ∃ (n_9 : Int),
                                                                                          ∃ (n_10 : Int),
                                                                                            v = tuple #[int IntKind.i64 n_9, int IntKind.i64 n_10] ∧
                                                                                              Br (n_7 != 0) (Ret h K (Value.bool true))
                                                                                                (Br (n_8 != 0) (Ret h K (Value.bool true))
                                                                                                  (Br (n_10 != 0) (Ret h K (Value.bool true))
                                                                                                    (Br (decide (n_9 ≥ n))
                                                                                                      (Br (!decide (a < 0) == decide (b < 0)) (Ret h K (Value.bool true))
                                                                                                        (Br (n_9 == n) (Ret h K (Value.bool true)) (Ret h K (Value.bool (n_9 == IntKind.wrap IntKind.i64 (n + 1))))))
                                                                                                      (Ret h K (Value.bool false))))))))
                                                                  (Br (a == b)
                                                                    (Br (n != n_2) (Ret h K (Value.bool false))
                                                                      (CallA Try.prog fn_money_Add [int IntKind.i64 a, int IntKind.i64 b] h fun (v : Value) (h : Heap) =>
                                                                        ∃ (n_6 : Int),
                                                                          ∃ (n_7 : Int),
                                                                            v = tuple #[int IntKind.i64 n_6, int IntKind.i64 n_7] ∧
                                                                              CallA Try.prog fn_money_Add [int IntKind.i64 n, int IntKind.i64 n_2] h fun (v : Value) (h : Heap) =>
                                                                                ∃ (n : Int),
                                                                                  ∃ (n_8 : Int),
                                                                                    v = tuple #[int IntKind.i64 n, int IntKind.i64 n_8] ∧
                                                                                      CallA Try.prog fn_table_Worth [slice t tn tc, int IntKind.i64 cur, int IntKind.i64 n_6] h fun (v : Value) (h : Heap) =>
                                                                                        ∃ (n_9 : Int),
                                                                                          ∃ (n_10 : Int),
                                                                                            v = tuple #[int IntKind.i64 n_9, int IntKind.i64 n_10] ∧
                                                                                              Br (n_7 != 0) (Ret h K (Value.bool true))
                                                                                                (Br (n_8 != 0) (Ret h K (Value.bool true))
                                                                                                  (Br (n_10 != 0) (Ret h K (Value.bool true))
                                                                                                    (Br (decide (n_9 ≥ n))
                                                                                                      (Br (!decide (a < 0) == decide (b < 0)) (Ret h K (Value.bool true))
                                                                                                        (Br (n_9 == n) (Ret h K (Value.bool true)) (Ret h K (Value.bool (n_9 == IntKind.wrap IntKind.i64 (n + 1))))))
                                                                                                      (Ret h K (Value.bool false)))))))
                                                                    (CallA Try.prog fn_money_Add [int IntKind.i64 a, int IntKind.i64 b] h fun (v : Value) (h : Heap) =>
                                                                      ∃ (n_6 : Int),
                                                                        ∃ (n_7 : Int),
                                                                          v = tuple #[int IntKind.i64 n_6, int IntKind.i64 n_7] ∧
                                                                            CallA Try.prog fn_money_Add [int IntKind.i64 n, int IntKind.i64 n_2] h fun (v : Value) (h : Heap) =>
                                                                              ∃ (n : Int),
                                                                                ∃ (n_8 : Int),
                                                                                  v = tuple #[int IntKind.i64 n, int IntKind.i64 n_8] ∧
                                                                                    CallA Try.prog fn_table_Worth [slice t tn tc, int IntKind.i64 cur, int IntKind.i64 n_6] h fun (v : Value) (h : Heap) =>
                                                                                      ∃ (n_9 : Int),
                                                                                        ∃ (n_10 : Int),
                                                                                          v = tuple #[int IntKind.i64 n_9, int IntKind.i64 n_10] ∧
                                                                                            Br (n_7 != 0) (Ret h K (Value.bool true))
                                                                                              (Br (n_8 != 0) (Ret h K (Value.bool true))
                                                                                                (Br (n_10 != 0) (Ret h K (Value.bool true))
                                                                                                  (Br (decide (n_9 ≥ n))
                                                                                                    (Br (!decide (a < 0) == decide (b < 0)) (Ret h K (Value.bool true))
                                                                                                      (Br (n_9 == n) (Ret h K (Value.bool true)) (Ret h K (Value.bool (n_9 == IntKind.wrap IntKind.i64 (n + 1))))))
                                                                                                    (Ret h K (Value.bool false))))))))))))
                                                        (Br (n_1 != 0) (Ret h K (Value.bool true))
                                                          (Br (n_3 != 0) (Ret h K (Value.bool true))
                                                            (Br (decide (a < b))
                                                              (Br (decide (n > n_2)) (Ret h K (Value.bool false))
                                                                (Br (decide (a > b))
                                                                  (Br (decide (n < n_2)) (Ret h K (Value.bool false))
                                                                    (Br (a == b)
                                                                      (Br (n != n_2) (Ret h K (Value.bool false))
                                                                        (CallA Try.prog fn_money_Add [int IntKind.i64 a, int IntKind.i64 b] h fun (v : Value) (h : Heap) =>
                                                                          ∃ (n_6 : Int),
                                                                            ∃ (n_7 : Int),
                                                                              v = tuple #[int IntKind.i64 n_6, int IntKind.i64 n_7] ∧
                                                                                CallA Try.prog fn_money_Add [int IntKind.i64 n, int IntKind.i64 n_2] h fun (v : Value) (h : Heap) =>
                                                                                  ∃ (n : Int),
                                                                                    ∃ (n_8 : Int),
                                                                                      v = tuple #[int IntKind.i64 n, int IntKind.i64 n_8] ∧
                                                                                        CallA Try.prog fn_table_Worth [slice t tn tc, int IntKind.i64 cur, int IntKind.i64 n_6] h fun (v : Value) (h : Heap) =>
                                                                                          ∃ (n_9 : Int),
                                                                                            ∃ (n_10 : Int),
                                                                                              v = tuple #[int IntKind.i64 n_9, int IntKind.i64 n_10] ∧
                                                                                                Br (n_7 != 0) (Ret h K (Value.bool true))
                                                                                                  (Br (n_8 != 0) (Ret h K (Value.bool true))
                                                                                                    (Br (n_10 != 0) (Ret h K (Value.bool true))
                                                                                                      (Br (decide (n_9 ≥ n))
                                                                                                        (Br (!decide (a < 0) == decide (b < 0)) (Ret h K (Value.bool true))
                                                                                                          (Br (n_9 == n) (Ret h K (Value.bool true)) (Ret h K (Value.bool (n_9 == IntKind.wrap IntKind.i64 (n + 1))))))
                                                                                                        (Ret h K (Value.bool false)))))))
                                                                      (CallA Try.prog fn_money_Add [int IntKind.i64 a, int IntKind.i64 b] h fun (v : Value) (h : Heap) =>
                                                                        ∃ (n_6 : Int),
                                                                          ∃ (n_7 : Int),
                                                                            v = tuple #[int IntKind.i64 n_6, int IntKind.i64 n_7] ∧
                                                                              CallA Try.prog fn_money_Add [int IntKind.i64 n, int IntKind.i64 n_2] h fun (v : Value) (h : Heap) =>
                                                                                ∃ (n : Int),
                                                                                  ∃ (n_8 : Int),
                                                                                    v = tuple #[int IntKind.i64 n, int IntKind.i64 n_8] ∧
                                                                                      CallA Try.prog fn_table_Worth [slice t tn tc, int IntKind.i64 cur, int IntKind.i64 n_6] h fun (v : Value) (h : Heap) =>
                                                                                        ∃ (n_9 : Int),
                                                                                          ∃ (n_10 : Int),
                                                                                            v = tuple #[int IntKind.i64 n_9, int IntKind.i64 n_10] ∧
                                                                                              Br (n_7 != 0) (Ret h K (Value.bool true))
                                                                                                (Br (n_8 != 0) (Ret h K (Value.bool true))
                                                                                                  (Br (n_10 != 0) (Ret h K (Value.bool true))
                                                                                                    (Br (decide (n_9 ≥ n))
                                                                                                      (Br (!decide (a < 0) == decide (b < 0)) (Ret h K (Value.bool true))
                                                                                                        (Br (n_9 == n) (Ret h K (Value.bool true)) (Ret h K (Value.bool (n_9 == IntKind.wrap IntKind.i64 (n + 1))))))
                                                                                                      (Ret h K (Value.bool false))))))))
                                                                  (Br (a == b)
                                                                    (Br (n != n_2) (Ret h K (Value.bool false))
                                                                      (CallA Try.prog fn_money_Add [int IntKind.i64 a, int IntKind.i64 b] h fun (v : Value) (h : Heap) =>
                                                                        ∃ (n_6 : Int),
                                                                          ∃ (n_7 : Int),
                                                                            v = tuple #[int IntKind.i64 n_6, int IntKind.i64 n_7] ∧
                                                                              CallA Try.prog fn_money_Add [int IntKind.i64 n, int IntKind.i64 n_2] h fun (v : Value) (h : Heap) =>
                                                                                ∃ (n : Int),
                                                                                  ∃ (n_8 : Int),
                                                                                    v = tuple #[int IntKind.i64 n, int IntKind.i64 n_8] ∧
                                                                                      CallA Try.prog fn_table_Worth [slice t tn tc, int IntKind.i64 cur, int IntKind.i64 n_6] h fun (v : Value) (h : Heap) =>
                                                                                        ∃ (n_9 : Int),
                                                                                          ∃ (n_10 : Int),
                                                                                            v = tuple #[int IntKind.i64 n_9, int IntKind.i64 n_10] ∧
                                                                                              Br (n_7 != 0) (Ret h K (Value.bool true))
                                                                                                (Br (n_8 != 0) (Ret h K (Value.bool true))
                                                                                                  (Br (n_10 != 0) (Ret h K (Value.bool true))
                                                                                                    (Br (decide (n_9 ≥ n))
                                                                                                      (Br (!decide (a < 0) == decide (b < 0)) (Ret h K (Value.bool true))
                                                                                                        (Br (n_9 == n) (Ret h K (Value.bool true)) (Ret h K (Value.bool (n_9 == IntKind.wrap IntKind.i64 (n + 1))))))
                                                                                                      (Ret h K (Value.bool false)))))))
                                                                    (CallA Try.prog fn_money_Add [int IntKind.i64 a, int IntKind.i64 b] h fun (v : Value) (h : Heap) =>
                                                                      ∃ (n_6 : Int),
                                                                        ∃ (n_7 : Int),
                                                                          v = tuple #[int IntKind.i64 n_6, int IntKind.i64 n_7] ∧
                                                                            CallA Try.prog fn_money_Add [int IntKind.i64 n, int IntKind.i64 n_2] h fun (v : Value) (h : Heap) =>
                                                                              ∃ (n : Int),
                                                                                ∃ (n_8 : Int),
                                                                                  v = tuple #[int IntKind.i64 n, int IntKind.i64 n_8] ∧
                                                                                    CallA Try.prog fn_table_Worth [slice t tn tc, int IntKind.i64 cur, int IntKind.i64 n_6] h fun (v : Value) (h : Heap) =>
                                                                                      ∃ (n_9 : Int),
                                                                                        ∃ (n_10 : Int),
                                                                                          v = tuple #[int IntKind.i64 n_9, int IntKind.i64 n_10] ∧
                                                                                            Br (n_7 != 0) (Ret h K (Value.bool true))
                                                                                              (Br (n_8 != 0) (Ret h K (Value.bool true))
                                                                                                (Br (n_10 != 0) (Ret h K (Value.bool true))
                                                                                                  (Br (decide (n_9 ≥ n))
                                                                                                    (Br (!decide (a < 0) == decide (b < 0)) (Ret h K (Value.bool true))
                                                                                                      (Br (n_9 == n) (Ret h K (Value.bool true)) (Ret h K (Value.bool (n_9 == IntKind.wrap IntKind.i64 (n + 1))))))
                                                                                                    (Ret h K (Value.bool false)))))))))
                                                              (Br (decide (a > b))
                                                                (Br (decide (n < n_2)) (Ret h K (Value.bool false))
                                                                  (Br (a == b)
                                                                    (Br (n != n_2) (Ret h K (Value.bool false))
                                                                      (CallA Try.prog fn_money_Add [int IntKind.i64 a, int IntKind.i64 b] h fun (v : Value) (h : Heap) =>
                                                                        ∃ (n_6 : Int),
                                                                          ∃ (n_7 : Int),
                                                                            v = tuple #[int IntKind.i64 n_6, int IntKind.i64 n_7] ∧
                                                                              CallA Try.prog fn_money_Add [int IntKind.i64 n, int IntKind.i64 n_2] h fun (v : Value) (h : Heap) =>
                                                                                ∃ (n : Int),
                                                                                  ∃ (n_8 : Int),
                                                                                    v = tuple #[int IntKind.i64 n, int IntKind.i64 n_8] ∧
                                                                                      CallA Try.prog fn_table_Worth [slice t tn tc, int IntKind.i64 cur, int IntKind.i64 n_6] h fun (v : Value) (h : Heap) =>
                                                                                        ∃ (n_9 : Int),
                                                                                          ∃ (n_10 : Int),
                                                                                            v = tuple #[int IntKind.i64 n_9, int IntKind.i64 n_10] ∧
                                                                                              Br (n_7 != 0) (Ret h K (Value.bool true))
                                                                                                (Br (n_8 != 0) (Ret h K (Value.bool true))
                                                                                                  (Br (n_10 != 0) (Ret h K (Value.bool true))
                                                                                                    (Br (decide (n_9 ≥ n))
                                                                                                      (Br (!decide (a < 0) == decide (b < 0)) (Ret h K (Value.bool true))
                                                                                                        (Br (n_9 == n) (Ret h K (Value.bool true)) (Ret h K (Value.bool (n_9 == IntKind.wrap IntKind.i64 (n + 1))))))
                                                                                                      (Ret h K (Value.bool false)))))))
                                                                    (CallA Try.prog fn_money_Add [int IntKind.i64 a, int IntKind.i64 b] h fun (v : Value) (h : Heap) =>
                                                                      ∃ (n_6 : Int),
                                                                        ∃ (n_7 : Int),
                                                                          v = tuple #[int IntKind.i64 n_6, int IntKind.i64 n_7] ∧
                                                                            CallA Try.prog fn_money_Add [int IntKind.i64 n, int IntKind.i64 n_2] h fun (v : Value) (h : Heap) =>
                                                                              ∃ (n : Int),
                                                                                ∃ (n_8 : Int),
                                                                                  v = tuple #[int IntKind.i64 n, int IntKind.i64 n_8] ∧
                                                                                    CallA Try.prog fn_table_Worth [slice t tn tc, int IntKind.i64 cur, int IntKind.i64 n_6] h fun (v : Value) (h : Heap) =>
                                                                                      ∃ (n_9 : Int),
                                                                                        ∃ (n_10 : Int),
                                                                                          v = tuple #[int IntKind.i64 n_9, int IntKind.i64 n_10] ∧
                                                                                            Br (n_7 != 0) (Ret h K (Value.bool true))
                                                                                              (Br (n_8 != 0) (Ret h K (Value.bool true))
                                                                                                (Br (n_10 != 0) (Ret h K (Value.bool true))
                                                                                                  (Br (decide (n_9 ≥ n))
                                                                                                    (Br (!decide (a < 0) == decide (b < 0)) (Ret h K (Value.bool true))
                                                                                                      (Br (n_9 == n) (Ret h K (Value.bool true)) (Ret h K (Value.bool (n_9 == IntKind.wrap IntKind.i64 (n + 1))))))
                                                                                                    (Ret h K (Value.bool false))))))))
                                                                (Br (a == b)
                                                                  (Br (n != n_2) (Ret h K (Value.bool false))
                                                                    (CallA Try.prog fn_money_Add [int IntKind.i64 a, int IntKind.i64 b] h fun (v : Value) (h : Heap) =>
                                                                      ∃ (n_6 : Int),
                                                                        ∃ (n_7 : Int),
                                                                          v = tuple #[int IntKind.i64 n_6, int IntKind.i64 n_7] ∧
                                                                            CallA Try.prog fn_money_Add [int IntKind.i64 n, int IntKind.i64 n_2] h fun (v : Value) (h : Heap) =>
                                                                              ∃ (n : Int),
                                                                                ∃ (n_8 : Int),
                                                                                  v = tuple #[int IntKind.i64 n, int IntKind.i64 n_8] ∧
                                                                                    CallA Try.prog fn_table_Worth [slice t tn tc, int IntKind.i64 cur, int IntKind.i64 n_6] h fun (v : Value) (h : Heap) =>
                                                                                      ∃ (n_9 : Int),
                                                                                        ∃ (n_10 : Int),
                                                                                          v = tuple #[int IntKind.i64 n_9, int IntKind.i64 n_10] ∧
                                                                                            Br (n_7 != 0) (Ret h K (Value.bool true))
                                                                                              (Br (n_8 != 0) (Ret h K (Value.bool true))
                                                                                                (Br (n_10 != 0) (Ret h K (Value.bool true))
                                                                                                  (Br (decide (n_9 ≥ n))
                                                                                                    (Br (!decide (a < 0) == decide (b < 0)) (Ret h K (Value.bool true))
                                                                                                      (Br (n_9 == n) (Ret h K (Value.bool true)) (Ret h K (Value.bool (n_9 == IntKind.wrap IntKind.i64 (n + 1))))))
                                                                                                    (Ret h K (Value.bool false)))))))
                                                                  (CallA Try.prog fn_money_Add [int IntKind.i64 a, int IntKind.i64 b] h fun (v : Value) (h : Heap) =>
                                                                    ∃ (n_6 : Int),
                                                                      ∃ (n_7 : Int),
                                                                        v = tuple #[int IntKind.i64 n_6, int IntKind.i64 n_7] ∧
                                                                          CallA Try.prog fn_money_Add [int IntKind.i64 n, int IntKind.i64 n_2] h fun (v : Value) (h : Heap) =>
                                                                            ∃ (n : Int),
                                                                              ∃ (n_8 : Int),
                                                                                v = tuple #[int IntKind.i64 n, int IntKind.i64 n_8] ∧
                                                                                  CallA Try.prog fn_table_Worth [slice t tn tc, int IntKind.i64 cur, int IntKind.i64 n_6] h fun (v : Value) (h : Heap) =>
                                                                                    ∃ (n_9 : Int),
                                                                                      ∃ (n_10 : Int),
                                                                                        v = tuple #[int IntKind.i64 n_9, int IntKind.i64 n_10] ∧
                                                                                          Br (n_7 != 0) (Ret h K (Value.bool true))
                                                                                            (Br (n_8 != 0) (Ret h K (Value.bool true))
                                                                                              (Br (n_10 != 0) (Ret h K (Value.bool true))
                                                                                                (Br (decide (n_9 ≥ n))
                                                                                                  (Br (!decide (a < 0) == decide (b < 0)) (Ret h K (Value.bool true))
                                                                                                    (Br (n_9 == n) (Ret h K (Value.bool true)) (Ret h K (Value.bool (n_9 == IntKind.wrap IntKind.i64 (n + 1))))))
                                                                                                  (Ret h K (Value.bool false))))))))))))
                                                      (Br (n_1 != 0) (Ret h K (Value.bool true))
                                                        (Br (n_3 != 0) (Ret h K (Value.bool true))
                                                          (Br (decide (a < b))
                                                            (Br (decide (n > n_2)) (Ret h K (Value.bool false))
                                                              (Br (decide (a > b))
                                                                (Br (decide (n < n_2)) (Ret h K (Value.bool false))
                                                                  (Br (a == b)
                                                                    (Br (n != n_2) (Ret h K (Value.bool false))
                                                                      (CallA Try.prog fn_money_Add [int IntKind.i64 a, int IntKind.i64 b] h fun (v : Value) (h : Heap) =>
                                                                        ∃ (n_6 : Int),
                                                                          ∃ (n_7 : Int),
                                                                            v = tuple #[int IntKind.i64 n_6, int IntKind.i64 n_7] ∧
                                                                              CallA Try.prog fn_money_Add [int IntKind.i64 n, int IntKind.i64 n_2] h fun (v : Value) (h : Heap) =>
                                                                                ∃ (n : Int),
                                                                                  ∃ (n_8 : Int),
                                                                                    v = tuple #[int IntKind.i64 n, int IntKind.i64 n_8] ∧
                                                                                      CallA Try.prog fn_table_Worth [slice t tn tc, int IntKind.i64 cur, int IntKind.i64 n_6] h fun (v : Value) (h : Heap) =>
                                                                                        ∃ (n_9 : Int),
                                                                                          ∃ (n_10 : Int),
                                                                                            v = tuple #[int IntKind.i64 n_9, int IntKind.i64 n_10] ∧
                                                                                              Br (n_7 != 0) (Ret h K (Value.bool true))
                                                                                                (Br (n_8 != 0) (Ret h K (Value.bool true))
                                                                                                  (Br (n_10 != 0) (Ret h K (Value.bool true))
                                                                                                    (Br (decide (n_9 ≥ n))
                                                                                                      (Br (!decide (a < 0) == decide (b < 0)) (Ret h K (Value.bool true))
                                                                                                        (Br (n_9 == n) (Ret h K (Value.bool true)) (Ret h K (Value.bool (n_9 == IntKind.wrap IntKind.i64 (n + 1))))))
                                                                                                      (Ret h K (Value.bool false)))))))
                                                                    (CallA Try.prog fn_money_Add [int IntKind.i64 a, int IntKind.i64 b] h fun (v : Value) (h : Heap) =>
                                                                      ∃ (n_6 : Int),
                                                                        ∃ (n_7 : Int),
                                                                          v = tuple #[int IntKind.i64 n_6, int IntKind.i64 n_7] ∧
                                                                            CallA Try.prog fn_money_Add [int IntKind.i64 n, int IntKind.i64 n_2] h fun (v : Value) (h : Heap) =>
                                                                              ∃ (n : Int),
                                                                                ∃ (n_8 : Int),
                                                                                  v = tuple #[int IntKind.i64 n, int IntKind.i64 n_8] ∧
                                                                                    CallA Try.prog fn_table_Worth [slice t tn tc, int IntKind.i64 cur, int IntKind.i64 n_6] h fun (v : Value) (h : Heap) =>
                                                                                      ∃ (n_9 : Int),
                                                                                        ∃ (n_10 : Int),
                                                                                          v = tuple #[int IntKind.i64 n_9, int IntKind.i64 n_10] ∧
                                                                                            Br (n_7 != 0) (Ret h K (Value.bool true))
                                                                                              (Br (n_8 != 0) (Ret h K (Value.bool true))
                                                                                                (Br (n_10 != 0) (Ret h K (Value.bool true))
                                                                                                  (Br (decide (n_9 ≥ n))
                                                                                                    (Br (!decide (a < 0) == decide (b < 0)) (Ret h K (Value.bool true))
                                                                                                      (Br (n_9 == n) (Ret h K (Value.bool true)) (Ret h K (Value.bool (n_9 == IntKind.wrap IntKind.i64 (n + 1))))))
                                                                                                    (Ret h K (Value.bool false))))))))
                                                                (Br (a == b)
                                                                  (Br (n != n_2) (Ret h K (Value.bool false))
                                                                    (CallA Try.prog fn_money_Add [int IntKind.i64 a, int IntKind.i64 b] h fun (v : Value) (h : Heap) =>
                                                                      ∃ (n_6 : Int),
                                                                        ∃ (n_7 : Int),
                                                                          v = tuple #[int IntKind.i64 n_6, int IntKind.i64 n_7] ∧
                                                                            CallA Try.prog fn_money_Add [int IntKind.i64 n, int IntKind.i64 n_2] h fun (v : Value) (h : Heap) =>
                                                                              ∃ (n : Int),
                                                                                ∃ (n_8 : Int),
                                                                                  v = tuple #[int IntKind.i64 n, int IntKind.i64 n_8] ∧
                                                                                    CallA Try.prog fn_table_Worth [slice t tn tc, int IntKind.i64 cur, int IntKind.i64 n_6] h fun (v : Value) (h : Heap) =>
                                                                                      ∃ (n_9 : Int),
                                                                                        ∃ (n_10 : Int),
                                                                                          v = tuple #[int IntKind.i64 n_9, int IntKind.i64 n_10] ∧
                                                                                            Br (n_7 != 0) (Ret h K (Value.bool true))
                                                                                              (Br (n_8 != 0) (Ret h K (Value.bool true))
                                                                                                (Br (n_10 != 0) (Ret h K (Value.bool true))
                                                                                                  (Br (decide (n_9 ≥ n))
                                                                                                    (Br (!decide (a < 0) == decide (b < 0)) (Ret h K (Value.bool true))
                                                                                                      (Br (n_9 == n) (Ret h K (Value.bool true)) (Ret h K (Value.bool (n_9 == IntKind.wrap IntKind.i64 (n + 1))))))
                                                                                                    (Ret h K (Value.bool false)))))))
                                                                  (CallA Try.prog fn_money_Add [int IntKind.i64 a, int IntKind.i64 b] h fun (v : Value) (h : Heap) =>
                                                                    ∃ (n_6 : Int),
                                                                      ∃ (n_7 : Int),
                                                                        v = tuple #[int IntKind.i64 n_6, int IntKind.i64 n_7] ∧
                                                                          CallA Try.prog fn_money_Add [int IntKind.i64 n, int IntKind.i64 n_2] h fun (v : Value) (h : Heap) =>
                                                                            ∃ (n : Int),
                                                                              ∃ (n_8 : Int),
                                                                                v = tuple #[int IntKind.i64 n, int IntKind.i64 n_8] ∧
                                                                                  CallA Try.prog fn_table_Worth [slice t tn tc, int IntKind.i64 cur, int IntKind.i64 n_6] h fun (v : Value) (h : Heap) =>
                                                                                    ∃ (n_9 : Int),
                                                                                      ∃ (n_10 : Int),
                                                                                        v = tuple #[int IntKind.i64 n_9, int IntKind.i64 n_10] ∧
                                                                                          Br (n_7 != 0) (Ret h K (Value.bool true))
                                                                                            (Br (n_8 != 0) (Ret h K (Value.bool true))
                                                                                              (Br (n_10 != 0) (Ret h K (Value.bool true))
                                                                                                (Br (decide (n_9 ≥ n))
                                                                                                  (Br (!decide (a < 0) == decide (b < 0)) (Ret h K (Value.bool true))
                                                                                                    (Br (n_9 == n) (Ret h K (Value.bool true)) (Ret h K (Value.bool (n_9 == IntKind.wrap IntKind.i64 (n + 1))))))
                                                                                                  (Ret h K (Value.bool false)))))))))
                                                            (Br (decide (a > b))
                                                              (Br (decide (n < n_2)) (Ret h K (Value.bool false))
                                                                (Br (a == b)
                                                                  (Br (n != n_2) (Ret h K (Value.bool false))
                                                                    (CallA Try.prog fn_money_Add [int IntKind.i64 a, int IntKind.i64 b] h fun (v : Value) (h : Heap) =>
                                                                      ∃ (n_6 : Int),
                                                                        ∃ (n_7 : Int),
                                                                          v = tuple #[int IntKind.i64 n_6, int IntKind.i64 n_7] ∧
                                                                            CallA Try.prog fn_money_Add [int IntKind.i64 n, int IntKind.i64 n_2] h fun (v : Value) (h : Heap) =>
                                                                              ∃ (n : Int),
                                                                                ∃ (n_8 : Int),
                                                                                  v = tuple #[int IntKind.i64 n, int IntKind.i64 n_8] ∧
                                                                                    CallA Try.prog fn_table_Worth [slice t tn tc, int IntKind.i64 cur, int IntKind.i64 n_6] h fun (v : Value) (h : Heap) =>
                                                                                      ∃ (n_9 : Int),
                                                                                        ∃ (n_10 : Int),
                                                                                          v = tuple #[int IntKind.i64 n_9, int IntKind.i64 n_10] ∧
                                                                                            Br (n_7 != 0) (Ret h K (Value.bool true))
                                                                                              (Br (n_8 != 0) (Ret h K (Value.bool true))
                                                                                                (Br (n_10 != 0) (Ret h K (Value.bool true))
                                                                                                  (Br (decide (n_9 ≥ n))
                                                                                                    (Br (!decide (a < 0) == decide (b < 0)) (Ret h K (Value.bool true))
                                                                                                      (Br (n_9 == n) (Ret h K (Value.bool true)) (Ret h K (Value.bool (n_9 == IntKind.wrap IntKind.i64 (n + 1))))))
                                                                                                    (Ret h K (Value.bool false)))))))
                                                                  (CallA Try.prog fn_money_Add [int IntKind.i64 a, int IntKind.i64 b] h fun (v : Value) (h : Heap) =>
                                                                    ∃ (n_6 : Int),
                                                                      ∃ (n_7 : Int),
                                                                        v = tuple #[int IntKind.i64 n_6, int IntKind.i64 n_7] ∧
                                                                          CallA Try.prog fn_money_Add [int IntKind.i64 n, int IntKind.i64 n_2] h fun (v : Value) (h : Heap) =>
                                                                            ∃ (n : Int),
                                                                              ∃ (n_8 : Int),
                                                                                v = tuple #[int IntKind.i64 n, int IntKind.i64 n_8] ∧
                                                                                  CallA Try.prog fn_table_Worth [slice t tn tc, int IntKind.i64 cur, int IntKind.i64 n_6] h fun (v : Value) (h : Heap) =>
                                                                                    ∃ (n_9 : Int),
                                                                                      ∃ (n_10 : Int),
                                                                                        v = tuple #[int IntKind.i64 n_9, int IntKind.i64 n_10] ∧
                                                                                          Br (n_7 != 0) (Ret h K (Value.bool true))
                                                                                            (Br (n_8 != 0) (Ret h K (Value.bool true))
                                                                                              (Br (n_10 != 0) (Ret h K (Value.bool true))
                                                                                                (Br (decide (n_9 ≥ n))
                                                                                                  (Br (!decide (a < 0) == decide (b < 0)) (Ret h K (Value.bool true))
                                                                                                    (Br (n_9 == n) (Ret h K (Value.bool true)) (Ret h K (Value.bool (n_9 == IntKind.wrap IntKind.i64 (n + 1))))))
                                                                                                  (Ret h K (Value.bool false))))))))
                                                              (Br (a == b)
                                                                (Br (n != n_2) (Ret h K (Value.bool false))
                                                                  (CallA Try.prog fn_money_Add [int IntKind.i64 a, int IntKind.i64 b] h fun (v : Value) (h : Heap) =>
                                                                    ∃ (n_6 : Int),
                                                                      ∃ (n_7 : Int),
                                                                        v = tuple #[int IntKind.i64 n_6, int IntKind.i64 n_7] ∧
                                                                          CallA Try.prog fn_money_Add [int IntKind.i64 n, int IntKind.i64 n_2] h fun (v : Value) (h : Heap) =>
                                                                            ∃ (n : Int),
                                                                              ∃ (n_8 : Int),
                                                                                v = tuple #[int IntKind.i64 n, int IntKind.i64 n_8] ∧
                                                                                  CallA Try.prog fn_table_Worth [slice t tn tc, int IntKind.i64 cur, int IntKind.i64 n_6] h fun (v : Value) (h : Heap) =>
                                                                                    ∃ (n_9 : Int),
                                                                                      ∃ (n_10 : Int),
                                                                                        v = tuple #[int IntKind.i64 n_9, int IntKind.i64 n_10] ∧
                                                                                          Br (n_7 != 0) (Ret h K (Value.bool true))
                                                                                            (Br (n_8 != 0) (Ret h K (Value.bool true))
                                                                                              (Br (n_10 != 0) (Ret h K (Value.bool true))
                                                                                                (Br (decide (n_9 ≥ n))
                                                                                                  (Br (!decide (a < 0) == decide (b < 0)) (Ret h K (Value.bool true))
                                                                                                    (Br (n_9 == n) (Ret h K (Value.bool true)) (Ret h K (Value.bool (n_9 == IntKind.wrap IntKind.i64 (n + 1))))))
                                                                                                  (Ret h K (Value.bool false)))))))
                                                                (CallA Try.prog fn_money_Add [int IntKind.i64 a, int IntKind.i64 b] h fun (v : Value) (h : Heap) =>
                                                                  ∃ (n_6 : Int),
                                                                    ∃ (n_7 : Int),
                                                                      v = tuple #[int IntKind.i64 n_6, int IntKind.i64 n_7] ∧
                                                                        CallA Try.prog fn_money_Add [int IntKind.i64 n, int IntKind.i64 n_2] h fun (v : Value) (h : Heap) =>
                                                                          ∃ (n : Int),
                                                                            ∃ (n_8 : Int),
                                                                              v = tuple #[int IntKind.i64 n, int IntKind.i64 n_8] ∧
                                                                                CallA Try.prog fn_table_Worth [slice t tn tc, int IntKind.i64 cur, int IntKind.i64 n_6] h fun (v : Value) (h : Heap) =>
                                                                                  ∃ (n_9 : Int),
                                                                                    ∃ (n_10 : Int),
                                                                                      v = tuple #[int IntKind.i64 n_9, int IntKind.i64 n_10] ∧
                                                                                        Br (n_7 != 0) (Ret h K (Value.bool true))
                                                                                          (Br (n_8 != 0) (Ret h K (Value.bool true))
                                                                                            (Br (n_10 != 0) (Ret h K (Value.bool true))
                                                                                              (Br (decide (n_9 ≥ n))
                                                                                                (Br (!decide (a < 0) == decide (b < 0)) (Ret h K (Value.bool true))
                                                                                                  (Br (n_9 == n) (Ret h K (Value.bool true)) (Ret h K (Value.bool (n_9 == IntKind.wrap IntKind.i64 (n + 1))))))
                                                                                                (Ret h K (Value.bool false))))))))))))))))
theorem F_law03_TableLess (t : Option Addr) (tn : Nat) (tc : Nat) (cur : Int) (a : Int) (b : Int) (h : Heap) (K : Value → Heap → Prop) (k : F_law03_TableLessT t tn tc cur a b h K) : CallA Try.prog fn_law03_TableLess [slice t tn tc, int IntKind.i64 cur, int IntKind.i64 a, int IntKind.i64 b] h K :=
  CallA.of_ev Try.func13 (by kernel_rfl) (fun _ _ => Try.call13 _ _) mixed (by kernel_rfl) (by kernel_rfl) k
end Go.Proofs.Ythojacmegofhcaa
