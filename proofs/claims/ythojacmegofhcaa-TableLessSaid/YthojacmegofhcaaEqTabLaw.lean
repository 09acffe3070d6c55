import Derived.Test.YthojacmegofhcaaEqN
namespace Go.Proofs.Ythojacmegofhcaa
open Go Go.Sy Go.Value
set_option linter.unusedVariables false
def F_law03_awakeT (h : Heap) (K : Value → Heap → Prop) : Prop :=
  newB h [string { data := #[69, 85, 82] }, int IntKind.i64 10000, int IntKind.i64 0, string { data := #[85, 83, 68] }, int IntKind.i64 12500, int IntKind.i64 200] 65 fun (r : Nat) (h : Heap) =>
  CallA Try.prog fn_table_Worth [slice (some { block := r, off := 0 }) 2 2, int IntKind.i64 1, int IntKind.i64 100] h fun (v : Value) (h : Heap) =>
    ∃ (n : Int),
      ∃ (n_1 : Int),
        v = tuple #[int IntKind.i64 n, int IntKind.i64 n_1] ∧
          CallA Try.prog fn_table_Worth [slice (some { block := r, off := 0 }) 2 2, int IntKind.i64 1, int IntKind.i64 (-100)] h fun (v : Value) (h : Heap) =>
            ∃ (n_2 : Int),
              ∃ (n_3 : Int),
                v = tuple #[int IntKind.i64 n_2, int IntKind.i64 n_3] ∧
                  CallA Try.prog fn_table_Plain [slice (some { block := r, off := 0 }) 2 2, int IntKind.i64 1, int IntKind.i64 (-100)] h fun (v : Value) (h : Heap) =>
                    ∃ (n_4 : Int),
                      ∃ (n_5 : Int),
                        v = tuple #[int IntKind.i64 n_4, int IntKind.i64 n_5] ∧
                          CallA Try.prog fn_table_Change [slice (some { block := r, off := 0 }) 2 2, int IntKind.i64 0, int IntKind.i64 1, int IntKind.i64 100, Value.bool true] h fun (v : Value) (h : Heap) =>
                            ∃ (n_6 : Int),
                              ∃ (n_7 : Int),
                                v = tuple #[int IntKind.i64 n_6, int IntKind.i64 n_7] ∧
                                  CallA Try.prog fn_table_Worth [slice (some { block := r, off := 0 }) 2 2, int IntKind.i64 2, int IntKind.i64 1] h fun (v : Value) (h : Heap) =>
                                    ∃ (n_8 : Int),
                                      ∃ (n_9 : Int),
                                        v = tuple #[int IntKind.i64 n_8, int IntKind.i64 n_9] ∧
                                          CallA Try.prog fn_table_WithRate [slice (some { block := r, off := 0 }) 2 2, int IntKind.i64 1, int IntKind.i64 7] h fun (v : Value) (h : Heap) =>
                                            ∃ (a : Option Addr),
                                              ∃ (n_10 : Nat),
                                                ∃ (m : Nat),
                                                  ∃ (n_11 : Int),
                                                    v = tuple #[slice a n_10 m, int IntKind.i64 n_11] ∧
                                                      CallA Try.prog fn_table_WithCut [slice (some { block := r, off := 0 }) 2 2, int IntKind.i64 0, int IntKind.i64 1] h fun (v : Value) (h : Heap) =>
                                                        ∃ (a_1 : Option Addr),
                                                          ∃ (n_12 : Nat),
                                                            ∃ (m : Nat),
                                                              ∃ (n_13 : Int),
                                                                v = tuple #[slice a_1 n_12 m, int IntKind.i64 n_13] ∧
                                                                  CallA Try.prog fn_table_Find [slice (some { block := r, off := 0 }) 2 2, string { data := #[85, 83, 68] }] h fun (v : Value) (h : Heap) =>
                                                                    ∃ (n_14 : Int),
                                                                      ∃ (b : Bool),
                                                                        v = tuple #[int IntKind.i64 n_14, Value.bool b] ∧
                                                                          CallA Try.prog fn_table_Check [slice (some { block := r, off := 0 }) 2 2] h fun (v : Value) (h : Heap) =>
                                                                            ∃ (n_15 : Int),
                                                                              v = int IntKind.i64 n_15 ∧
                                                                                Br (n_15 == 0)
                                                                                  (CallA Try.prog fn_table_Check [slice none 0 0] h fun (v : Value) (h : Heap) =>
                                                                                    ∃ (n_16 : Int),
                                                                                      v = int IntKind.i64 n_16 ∧
                                                                                        Br (n_16 == 4)
                                                                                          (Br (n == 122)
                                                                                            (Br (n_1 == 0)
                                                                                              (Br (n_2 == -128)
                                                                                                (Br (n_3 == 0)
                                                                                                  (Br (n_4 == -125)
                                                                                                    (Br (n_5 == 0)
                                                                                                      (Br (n_6 == 80)
                                                                                                        (Br (n_7 == 0)
                                                                                                          (Br (n_9 == 1)
                                                                                                            (Br ((↑n_10 : Int) == 2)
                                                                                                              ((0 : Int) ≤ 1 ∧
                                                                                                                1 < (↑n_10 : Int) ∧
                                                                                                                  withAddr a fun (b_1 o : Nat) =>
                                                                                                                    ∃ (n : Int),
                                                                                                                      Heap.cell h b_1 (o + 3 + 1) = some (int IntKind.i64 n) ∧
                                                                                                                        Br (n == 7)
                                                                                                                          (Br (n_11 == 0)
                                                                                                                            (Br (n_13 == 1) (Br (n_14 == 1) (Ret h K (Value.bool b)) (Ret h K (Value.bool false)))
                                                                                                                              (Ret h K (Value.bool false)))
                                                                                                                            (Ret h K (Value.bool false)))
                                                                                                                          (Ret h K (Value.bool false)))
                                                                                                              (Ret h K (Value.bool false)))
                                                                                                            (Ret h K (Value.bool false)))
                                                                                                          (Ret h K (Value.bool false)))
                                                                                                        (Ret h K (Value.bool false)))
                                                                                                      (Ret h K (Value.bool false)))
                                                                                                    (Ret h K (Value.bool false)))
                                                                                                  (Ret h K (Value.bool false)))
                                                                                                (Ret h K (Value.bool false)))
                                                                                              (Ret h K (Value.bool false)))
                                                                                            (Ret h K (Value.bool false)))
                                                                                          (Ret h K (Value.bool false)))
                                                                                  (Ret h K (Value.bool false))
theorem F_law03_awake (h : Heap) (K : Value → Heap → Prop) (k : F_law03_awakeT h K) : CallA Try.prog fn_law03_awake [] h K :=
  CallA.of_ev Try.func40 (by kernel_rfl) (fun _ _ => Try.call40 _ _) mixed (by kernel_rfl) (by kernel_rfl) k
def F_law03_TableTellsT (t : Option Addr) (tn : Nat) (tc : Nat) (code : ByteArray) (cur : Int) (n : Int) (h : Heap) (K : Value → Heap → Prop) : Prop :=
  CallA Try.prog fn_law03_awake [] h fun (v : Value) (h : Heap) =>
  ∃ (b : Bool),
    v = Value.bool b ∧
      Br (!b) (Ret h K (Value.bool false))
        (CallA Try.prog fn_law03_large [slice t tn tc] h fun (v : Value) (h : Heap) =>
          ∃ (b : Bool),
            v = Value.bool b ∧
              Br b (Ret h K (Value.bool true))
                (Br (decide ((↑(ByteArray.size code) : Int) > 1000)) (Ret h K (Value.bool true))
                  (CallA Try.prog fn_table_Find [slice t tn tc, string code] h fun (v : Value) (h : Heap) =>
                    ∃ (n_1 : Int),
                      ∃ (b : Bool),
                        v = tuple #[int IntKind.i64 n_1, Value.bool b] ∧
                          CallA Try.prog fn_ref03_Find [slice t tn tc, string code] h fun (v : Value) (h : Heap) =>
                            ∃ (n_2 : Int),
                              ∃ (b_1 : Bool),
                                v = tuple #[int IntKind.i64 n_2, Value.bool b_1] ∧
                                  CallA Try.prog fn_table_Check [slice t tn tc] h fun (v : Value) (h : Heap) =>
                                    ∃ (n_3 : Int),
                                      v = int IntKind.i64 n_3 ∧
                                        CallA Try.prog fn_ref03_Check [slice t tn tc] h fun (v : Value) (h : Heap) =>
                                          ∃ (n_4 : Int),
                                            v = int IntKind.i64 n_4 ∧
                                              Br (n_3 != n_4) (Ret h K (Value.bool false))
                                                (Br (n_1 != n_2) (Ret h K (Value.bool false))
                                                  (Br (!b == b_1) (Ret h K (Value.bool false))
                                                    (CallA Try.prog fn_ref03_Check [slice t tn tc] h fun (v : Value) (h : Heap) =>
                                                      ∃ (n_5 : Int),
                                                        v = int IntKind.i64 n_5 ∧
                                                          Br (n_5 != 0) (Ret h K (Value.bool true))
                                                            (Br (decide (cur ≥ 0))
                                                              (Br (decide (cur < (↑tn : Int)))
                                                                (0 ≤ cur ∧
                                                                  cur < (↑tn : Int) ∧
                                                                    withAddr t fun (b o : Nat) =>
                                                                      ∃ (n_6 : Int),
                                                                        Heap.cell h b (o + Int.toNat cur * 3 + 2) = some (int IntKind.i64 n_6) ∧
                                                                          0 ≤ cur ∧
                                                                            cur < (↑tn : Int) ∧
                                                                              withAddr t fun (b o : Nat) =>
                                                                                ∃ (n_7 : Int),
                                                                                  Heap.cell h b (o + Int.toNat cur * 3 + 1) = some (int IntKind.i64 n_7) ∧
                                                                                    CallA Try.prog fn_table_WithRate [slice t tn tc, int IntKind.i64 cur, int IntKind.i64 n] h fun (v : Value) (h : Heap) =>
                                                                                      ∃ (a : Option Addr),
                                                                                        ∃ (n_8 : Nat),
                                                                                          ∃ (m : Nat),
                                                                                            ∃ (n_9 : Int),
                                                                                              v = tuple #[slice a n_8 m, int IntKind.i64 n_9] ∧
                                                                                                CallA Try.prog fn_ref03_With [slice t tn tc, int IntKind.i64 cur, int IntKind.i64 n, int IntKind.i64 n_6] h
                                                                                                  fun (v : Value) (h : Heap) =>
                                                                                                  ∃ (a_1 : Option Addr),
                                                                                                    ∃ (n_10 : Nat),
                                                                                                      ∃ (m_1 : Nat),
                                                                                                        ∃ (n_11 : Int),
                                                                                                          v = tuple #[slice a_1 n_10 m_1, int IntKind.i64 n_11] ∧
                                                                                                            CallA Try.prog fn_table_WithCut [slice t tn tc, int IntKind.i64 cur, int IntKind.i64 n] h fun (v : Value) (h : Heap) =>
                                                                                                              ∃ (a_2 : Option Addr),
                                                                                                                ∃ (n_12 : Nat),
                                                                                                                  ∃ (m_2 : Nat),
                                                                                                                    ∃ (n_13 : Int),
                                                                                                                      v = tuple #[slice a_2 n_12 m_2, int IntKind.i64 n_13] ∧
                                                                                                                        CallA Try.prog 47
                                                                                                                          [slice t tn tc, int IntKind.i64 cur, int IntKind.i64 n_7, int IntKind.i64 n] h
                                                                                                                          fun (v : Value) (h : Heap) =>
                                                                                                                          ∃ (a_3 : Option Addr),
                                                                                                                            ∃ (n : Nat),
                                                                                                                              ∃ (m_3 : Nat),
                                                                                                                                ∃ (n_14 : Int),
                                                                                                                                  v = tuple #[slice a_3 n m_3, int IntKind.i64 n_14] ∧
                                                                                                                                    CallA Try.prog fn_ref03_Same [slice a n_8 m, slice a_1 n_10 m_1] h
                                                                                                                                      fun (v : Value) (h : Heap) =>
                                                                                                                                      ∃ (b : Bool),
                                                                                                                                        v = Value.bool b ∧
                                                                                                                                          Br b
                                                                                                                                            (Br (n_9 == n_11)
                                                                                                                                              (CallA Try.prog fn_ref03_Same [slice a_2 n_12 m_2, slice a_3 n m_3] h
                                                                                                                                                fun (v : Value) (h : Heap) =>
                                                                                                                                                ∃ (b : Bool),
                                                                                                                                                  v = Value.bool b ∧
                                                                                                                                                    Br b (Ret h K (Value.bool (n_13 == n_14))) (Ret h K (Value.bool false)))
                                                                                                                                              (Ret h K (Value.bool false)))
                                                                                                                                            (Ret h K (Value.bool false)))
                                                                (CallA Try.prog fn_table_WithRate [slice t tn tc, int IntKind.i64 cur, int IntKind.i64 n] h fun (v : Value) (h : Heap) =>
                                                                  ∃ (a : Option Addr),
                                                                    ∃ (n_6 : Nat),
                                                                      ∃ (m : Nat),
                                                                        ∃ (n_7 : Int),
                                                                          v = tuple #[slice a n_6 m, int IntKind.i64 n_7] ∧
                                                                            CallA Try.prog fn_ref03_With [slice t tn tc, int IntKind.i64 cur, int IntKind.i64 n, int IntKind.i64 0] h fun (v : Value) (h : Heap) =>
                                                                              ∃ (a_1 : Option Addr),
                                                                                ∃ (n_8 : Nat),
                                                                                  ∃ (m_1 : Nat),
                                                                                    ∃ (n_9 : Int),
                                                                                      v = tuple #[slice a_1 n_8 m_1, int IntKind.i64 n_9] ∧
                                                                                        CallA Try.prog fn_table_WithCut [slice t tn tc, int IntKind.i64 cur, int IntKind.i64 n] h fun (v : Value) (h : Heap) =>
                                                                                          ∃ (a_2 : Option Addr),
                                                                                            ∃ (n_10 : Nat),
                                                                                              ∃ (m_2 : Nat),
                                                                                                ∃ (n_11 : Int),
                                                                                                  v = tuple #[slice a_2 n_10 m_2, int IntKind.i64 n_11] ∧
                                                                                                    CallA Try.prog fn_ref03_With [slice t tn tc, int IntKind.i64 cur, int IntKind.i64 0, int IntKind.i64 n] h
                                                                                                      fun (v : Value) (h : Heap) =>
                                                                                                      ∃ (a_3 : Option Addr),
                                                                                                        ∃ (n : Nat),
                                                                                                          ∃ (m_3 : Nat),
                                                                                                            ∃ (n_12 : Int),
                                                                                                              v = tuple #[slice a_3 n m_3, int IntKind.i64 n_12] ∧
                                                                                                                CallA Try.prog fn_ref03_Same [slice a n_6 m, slice a_1 n_8 m_1] h fun (v : Value) (h : Heap) =>
                                                                                                                  ∃ (b : Bool),
                                                                                                                    v = Value.bool b ∧
                                                                                                                      Br b
                                                                                                                        (Br (n_7 == n_9)
                                                                                                                          (CallA Try.prog fn_ref03_Same [slice a_2 n_10 m_2, slice a_3 n m_3] h fun (v : Value) (h : Heap) =>
                                                                                                                            ∃ (b : Bool),
                                                                                                                              v = Value.bool b ∧ Br b (Ret h K (Value.bool (n_11 == n_12))) (Ret h K (Value.bool false)))
                                                                                                                          (Ret h K (Value.bool false)))
                                                                                                                        (Ret h K (Value.bool false))))
                                                              (CallA Try.prog fn_table_WithRate [slice t tn tc, int IntKind.i64 cur, int IntKind.i64 n] h fun (v : Value) (h : Heap) =>
                                                                ∃ (a : Option Addr),
                                                                  ∃ (n_6 : Nat),
                                                                    ∃ (m : Nat),
                                                                      ∃ (n_7 : Int),
                                                                        v = tuple #[slice a n_6 m, int IntKind.i64 n_7] ∧
                                                                          CallA Try.prog fn_ref03_With [slice t tn tc, int IntKind.i64 cur, int IntKind.i64 n, int IntKind.i64 0] h fun (v : Value) (h : Heap) =>
                                                                            ∃ (a_1 : Option Addr),
                                                                              ∃ (n_8 : Nat),
                                                                                ∃ (m_1 : Nat),
                                                                                  ∃ (n_9 : Int),
                                                                                    v = tuple #[slice a_1 n_8 m_1, int IntKind.i64 n_9] ∧
                                                                                      CallA Try.prog fn_table_WithCut [slice t tn tc, int IntKind.i64 cur, int IntKind.i64 n] h fun (v : Value) (h : Heap) =>
                                                                                        ∃ (a_2 : Option Addr),
                                                                                          ∃ (n_10 : Nat),
                                                                                            ∃ (m_2 : Nat),
                                                                                              ∃ (n_11 : Int),
                                                                                                v = tuple #[slice a_2 n_10 m_2, int IntKind.i64 n_11] ∧
                                                                                                  CallA Try.prog fn_ref03_With [slice t tn tc, int IntKind.i64 cur, int IntKind.i64 0, int IntKind.i64 n] h
                                                                                                    fun (v : Value) (h : Heap) =>
                                                                                                    ∃ (a_3 : Option Addr),
                                                                                                      ∃ (n : Nat),
                                                                                                        ∃ (m_3 : Nat),
                                                                                                          ∃ (n_12 : Int),
                                                                                                            v = tuple #[slice a_3 n m_3, int IntKind.i64 n_12] ∧
                                                                                                              CallA Try.prog fn_ref03_Same [slice a n_6 m, slice a_1 n_8 m_1] h fun (v : Value) (h : Heap) =>
                                                                                                                ∃ (b : Bool),
                                                                                                                  v = Value.bool b ∧
                                                                                                                    Br b
                                                                                                                      (Br (n_7 == n_9)
                                                                                                                        (CallA Try.prog fn_ref03_Same [slice a_2 n_10 m_2, slice a_3 n m_3] h fun (v : Value) (h : Heap) =>
                                                                                                                          ∃ (b : Bool),
                                                                                                                            v = Value.bool b ∧ Br b (Ret h K (Value.bool (n_11 == n_12))) (Ret h K (Value.bool false)))
                                                                                                                        (Ret h K (Value.bool false)))
                                                                                                                      (Ret h K (Value.bool false))))))))))
theorem F_law03_TableTells (t : Option Addr) (tn : Nat) (tc : Nat) (code : ByteArray) (cur : Int) (n : Int) (h : Heap) (K : Value → Heap → Prop) (k : F_law03_TableTellsT t tn tc code cur n h K) : CallA Try.prog fn_law03_TableTells [slice t tn tc, string code, int IntKind.i64 cur, int IntKind.i64 n] h K :=
  CallA.of_ev Try.func10 (by kernel_rfl) (fun _ _ => Try.call10 _ _) mixed (by kernel_rfl) (by kernel_rfl) k
def F_law03_TableWorthT (t : Option Addr) (tn : Nat) (tc : Nat) (cur : Int) (to : Int) (amount : Int) (up : Bool) (h : Heap) (K : Value → Heap → Prop) : Prop :=
  CallA Try.prog fn_law03_awake [] h fun (v : Value) (h : Heap) =>
  ∃ (b : Bool),
    v = Value.bool b ∧
      Br (!b) (Ret h K (Value.bool false))
        (CallA Try.prog fn_law03_large [slice t tn tc] h fun (v : Value) (h : Heap) =>
          ∃ (b : Bool),
            v = Value.bool b ∧
              Br b (Ret h K (Value.bool true))
                (CallA Try.prog fn_ref03_Check [slice t tn tc] h fun (v : Value) (h : Heap) =>
                  ∃ (n : Int),
                    v = int IntKind.i64 n ∧
                      Br (n != 0) (Ret h K (Value.bool true))
                        (CallA Try.prog fn_table_Worth [slice t tn tc, int IntKind.i64 cur, int IntKind.i64 amount] h fun (v : Value) (h : Heap) =>
                          ∃ (n : Int),
                            ∃ (n_1 : Int),
                              v = tuple #[int IntKind.i64 n, int IntKind.i64 n_1] ∧
                                CallA Try.prog fn_ref03_Worth [slice t tn tc, int IntKind.i64 cur, int IntKind.i64 amount] h fun (v : Value) (h : Heap) =>
                                  ∃ (n_2 : Int),
                                    ∃ (n_3 : Int),
                                      v = tuple #[int IntKind.i64 n_2, int IntKind.i64 n_3] ∧
                                        CallA Try.prog fn_table_Plain [slice t tn tc, int IntKind.i64 cur, int IntKind.i64 amount] h fun (v : Value) (h : Heap) =>
                                          ∃ (n_4 : Int),
                                            ∃ (n_5 : Int),
                                              v = tuple #[int IntKind.i64 n_4, int IntKind.i64 n_5] ∧
                                                CallA Try.prog fn_ref03_Plain [slice t tn tc, int IntKind.i64 cur, int IntKind.i64 amount] h fun (v : Value) (h : Heap) =>
                                                  ∃ (n_6 : Int),
                                                    ∃ (n_7 : Int),
                                                      v = tuple #[int IntKind.i64 n_6, int IntKind.i64 n_7] ∧
                                                        CallA Try.prog fn_table_Change [slice t tn tc, int IntKind.i64 cur, int IntKind.i64 to, int IntKind.i64 amount, Value.bool up] h fun (v : Value) (h : Heap) =>
                                                          ∃ (n_8 : Int),
                                                            ∃ (n_9 : Int),
                                                              v = tuple #[int IntKind.i64 n_8, int IntKind.i64 n_9] ∧
                                                                CallA Try.prog fn_ref03_Change [slice t tn tc, int IntKind.i64 cur, int IntKind.i64 to, int IntKind.i64 amount, Value.bool up] h fun (v : Value) (h : Heap) =>
                                                                  ∃ (n_10 : Int),
                                                                    ∃ (n_11 : Int),
                                                                      v = tuple #[int IntKind.i64 n_10, int IntKind.i64 n_11] ∧
                                                                        Br (n == n_2)
                                                                          (Br (n_1 == n_3)
                                                                            (Br (n_4 == n_6)
                                                                              (Br (n_5 == n_7) (Br (n_8 == n_10) (Ret h K (Value.bool (n_9 == n_11))) (Ret h K (Value.bool false))) (Ret h K (Value.bool false)))
                                                                              (Ret h K (Value.bool false)))
                                                                            (Ret h K (Value.bool false)))
                                                                          (Ret h K (Value.bool false)))))
theorem F_law03_TableWorth (t : Option Addr) (tn : Nat) (tc : Nat) (cur : Int) (to : Int) (amount : Int) (up : Bool) (h : Heap) (K : Value → Heap → Prop) (k : F_law03_TableWorthT t tn tc cur to amount up h K) : CallA Try.prog fn_law03_TableWorth [slice t tn tc, int IntKind.i64 cur, int IntKind.i64 to, int IntKind.i64 amount, Value.bool up] h K :=
  CallA.of_ev Try.func11 (by kernel_rfl) (fun _ _ => Try.call11 _ _) mixed (by kernel_rfl) (by kernel_rfl) k
def F_law03_TableBackT (t : Option Addr) (tn : Nat) (tc : Nat) (from' : Int) (to : Int) (amount : Int) (h : Heap) (K : Value → Heap → Prop) : Prop :=
  CallA Try.prog fn_law03_awake [] h fun (v : Value) (h : Heap) =>
  ∃ (b : Bool),
    v = Value.bool b ∧
      Br (!b) (Ret h K (Value.bool false))
        (CallA Try.prog fn_law03_large [slice t tn tc] h fun (v : Value) (h : Heap) =>
          ∃ (b : Bool),
            v = Value.bool b ∧
              Br b (Ret h K (Value.bool true))
                (CallA Try.prog fn_table_Check [slice t tn tc] h fun (v : Value) (h : Heap) =>
                  ∃ (n : Int),
                    v = int IntKind.i64 n ∧
                      Br (n != 0) (Ret h K (Value.bool true))
                        (Br (decide (amount < 0)) (Ret h K (Value.bool true))
                          (Br (decide (from' < 0)) (Ret h K (Value.bool true))
                            (Br (decide (from' ≥ (↑tn : Int))) (Ret h K (Value.bool true))
                              (Br (decide (to < 0)) (Ret h K (Value.bool true))
                                (Br (decide (to ≥ (↑tn : Int))) (Ret h K (Value.bool true))
                                  (CallA Try.prog fn_table_Change [slice t tn tc, int IntKind.i64 from', int IntKind.i64 to, int IntKind.i64 amount, Value.bool false] h fun (v : Value) (h : Heap) =>
                                    ∃ (n : Int),
                                      ∃ (n_1 : Int),
                                        v = tuple #[int IntKind.i64 n, int IntKind.i64 n_1] ∧
                                          CallA Try.prog fn_table_Change [slice t tn tc, int IntKind.i64 to, int IntKind.i64 from', int IntKind.i64 n, Value.bool false] h fun (v : Value) (h : Heap) =>
                                            ∃ (n : Int),
                                              ∃ (n_2 : Int),
                                                v = tuple #[int IntKind.i64 n, int IntKind.i64 n_2] ∧
                                                  CallA Try.prog fn_table_Change [slice t tn tc, int IntKind.i64 from', int IntKind.i64 to, int IntKind.i64 amount, Value.bool true] h fun (v : Value) (h : Heap) =>
                                                    ∃ (n_3 : Int),
                                                      ∃ (n_4 : Int),
                                                        v = tuple #[int IntKind.i64 n_3, int IntKind.i64 n_4] ∧
                                                          CallA Try.prog fn_table_Change [slice t tn tc, int IntKind.i64 to, int IntKind.i64 from', int IntKind.i64 n_3, Value.bool true] h fun (v : Value) (h : Heap) =>
                                                            ∃ (n_5 : Int),
                                                              ∃ (n_6 : Int),
                                                                v = tuple #[int IntKind.i64 n_5, int IntKind.i64 n_6] ∧
                                                                  Br (n_1 != 0) (Br (n_4 != 0) (Ret h K (Value.bool true)) (Br (n_6 != 0) (Ret h K (Value.bool true)) (Ret h K (Value.bool (decide (n_5 ≥ amount))))))
                                                                    (Br (n_2 == 0)
                                                                      (Br (decide (n ≤ amount))
                                                                        (Br (decide (n ≥ 0))
                                                                          (Br (n_4 != 0) (Ret h K (Value.bool true)) (Br (n_6 != 0) (Ret h K (Value.bool true)) (Ret h K (Value.bool (decide (n_5 ≥ amount))))))
                                                                          (Ret h K (Value.bool false)))
                                                                        (Ret h K (Value.bool false)))
                                                                      (Ret h K (Value.bool false)))))))))))
theorem F_law03_TableBack (t : Option Addr) (tn : Nat) (tc : Nat) (from' : Int) (to : Int) (amount : Int) (h : Heap) (K : Value → Heap → Prop) (k : F_law03_TableBackT t tn tc from' to amount h K) : CallA Try.prog fn_law03_TableBack [slice t tn tc, int IntKind.i64 from', int IntKind.i64 to, int IntKind.i64 amount] h K :=
  CallA.of_ev Try.func12 (by kernel_rfl) (fun _ _ => Try.call12 _ _) mixed (by kernel_rfl) (by kernel_rfl) k
end Go.Proofs.Ythojacmegofhcaa
