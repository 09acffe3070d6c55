import Derived.Test.YthojacmegofhcaaEqN
namespace Go.Proofs.Ythojacmegofhcaa
open Go Go.Sy Go.Value
set_option linter.unusedVariables false
def F_law01_MoneySumsT (a : Int) (b : Int) (h : Heap) (K : Value → Heap → Prop) : Prop :=
  CallA Try.prog fn_law01_awake [] h fun (v : Value) (h : Heap) =>
  ∃ (b_1 : Bool),
    v = Value.bool b_1 ∧
      Br (!b_1) (Ret h K (Value.bool false))
        (CallA Try.prog fn_money_Add [int IntKind.i64 a, int IntKind.i64 b] h fun (v : Value) (h : Heap) =>
          ∃ (n : Int),
            ∃ (n_1 : Int),
              v = tuple #[int IntKind.i64 n, int IntKind.i64 n_1] ∧
                CallA Try.prog fn_ref01_Of [int IntKind.i64 a] h fun (v : Value) (h : Heap) =>
                  ∃ (b_2 : Bool),
                    ∃ (a_1 : Option Addr),
                      ∃ (n_2 : Nat),
                        ∃ (m : Nat),
                          v = agg #[Value.bool b_2, slice a_1 n_2 m] ∧
                            CallA Try.prog fn_ref01_Of [int IntKind.i64 b] h fun (v : Value) (h : Heap) =>
                              ∃ (b_3 : Bool),
                                ∃ (a_2 : Option Addr),
                                  ∃ (n_3 : Nat),
                                    ∃ (m_1 : Nat),
                                      v = agg #[Value.bool b_3, slice a_2 n_3 m_1] ∧
                                        CallA Try.prog fn_ref01_Add [agg #[Value.bool b_2, slice a_1 n_2 m], agg #[Value.bool b_3, slice a_2 n_3 m_1]] h fun (v : Value) (h : Heap) =>
                                          ∃ (b_4 : Bool),
                                            ∃ (a_3 : Option Addr),
                                              ∃ (n_4 : Nat),
                                                ∃ (m : Nat),
                                                  v = agg #[Value.bool b_4, slice a_3 n_4 m] ∧
                                                    CallA Try.prog fn_ref01_Fit [agg #[Value.bool b_4, slice a_3 n_4 m]] h fun (v : Value) (h : Heap) =>
                                                      ∃ (n_5 : Int),
                                                        ∃ (n_6 : Int),
                                                          v = tuple #[int IntKind.i64 n_5, int IntKind.i64 n_6] ∧
                                                            CallA Try.prog fn_money_Sub [int IntKind.i64 a, int IntKind.i64 b] h fun (v : Value) (h : Heap) =>
                                                              ∃ (n_7 : Int),
                                                                ∃ (n_8 : Int),
                                                                  v = tuple #[int IntKind.i64 n_7, int IntKind.i64 n_8] ∧
                                                                    CallA Try.prog fn_ref01_Of [int IntKind.i64 a] h fun (v : Value) (h : Heap) =>
                                                                      ∃ (b_5 : Bool),
                                                                        ∃ (a_4 : Option Addr),
                                                                          ∃ (n_9 : Nat),
                                                                            ∃ (m : Nat),
                                                                              v = agg #[Value.bool b_5, slice a_4 n_9 m] ∧
                                                                                CallA Try.prog fn_ref01_Of [int IntKind.i64 b] h fun (v : Value) (h : Heap) =>
                                                                                  ∃ (b_6 : Bool),
                                                                                    ∃ (a_5 : Option Addr),
                                                                                      ∃ (n_10 : Nat),
                                                                                        ∃ (m_2 : Nat),
                                                                                          v = agg #[Value.bool b_6, slice a_5 n_10 m_2] ∧
                                                                                            CallA Try.prog fn_ref01_Turned [agg #[Value.bool b_6, slice a_5 n_10 m_2]] h fun (v : Value) (h : Heap) =>
                                                                                              ∃ (b_7 : Bool),
                                                                                                ∃ (a_6 : Option Addr),
                                                                                                  ∃ (n_11 : Nat),
                                                                                                    ∃ (m_3 : Nat),
                                                                                                      v = agg #[Value.bool b_7, slice a_6 n_11 m_3] ∧
                                                                                                        CallA Try.prog fn_ref01_Add [agg #[Value.bool b_5, slice a_4 n_9 m], agg #[Value.bool b_7, slice a_6 n_11 m_3]] h
                                                                                                          fun (v : Value) (h : Heap) =>
                                                                                                          ∃ (b_8 : Bool),
                                                                                                            ∃ (a_7 : Option Addr),
                                                                                                              ∃ (n_12 : Nat),
                                                                                                                ∃ (m : Nat),
                                                                                                                  v = agg #[Value.bool b_8, slice a_7 n_12 m] ∧
                                                                                                                    CallA Try.prog fn_ref01_Fit [agg #[Value.bool b_8, slice a_7 n_12 m]] h fun (v : Value) (h : Heap) =>
                                                                                                                      ∃ (n_13 : Int),
                                                                                                                        ∃ (n_14 : Int),
                                                                                                                          v = tuple #[int IntKind.i64 n_13, int IntKind.i64 n_14] ∧
                                                                                                                            CallA Try.prog fn_money_Mul [int IntKind.i64 a, int IntKind.i64 b] h fun (v : Value) (h : Heap) =>
                                                                                                                              ∃ (n_15 : Int),
                                                                                                                                ∃ (n_16 : Int),
                                                                                                                                  v = tuple #[int IntKind.i64 n_15, int IntKind.i64 n_16] ∧
                                                                                                                                    CallA Try.prog fn_ref01_Of [int IntKind.i64 a] h fun (v : Value) (h : Heap) =>
                                                                                                                                      ∃ (b_9 : Bool),
                                                                                                                                        ∃ (a_8 : Option Addr),
                                                                                                                                          ∃ (n_17 : Nat),
                                                                                                                                            ∃ (m : Nat),
                                                                                                                                              v = agg #[Value.bool b_9, slice a_8 n_17 m] ∧
                                                                                                                                                CallA Try.prog fn_ref01_Of [int IntKind.i64 b] h fun (v : Value) (h : Heap) =>
                                                                                                                                                  ∃ (b : Bool),
                                                                                                                                                    ∃ (a_9 : Option Addr),
                                                                                                                                                      ∃ (n_18 : Nat),
                                                                                                                                                        ∃ (m_4 : Nat),
                                                                                                                                                          v = agg #[Value.bool b, slice a_9 n_18 m_4] ∧
                                                                                                                                                            CallA Try.prog 32
                                                                                                                                                              [agg #[Value.bool b_9, slice a_8 n_17 m],
                                                                                                                                                                agg #[Value.bool b, slice a_9 n_18 m_4]]
                                                                                                                                                              h fun (v : Value) (h : Heap) =>
                                                                                                                                                              ∃ (b : Bool),
                                                                                                                                                                ∃ (a_10 : Option Addr),
                                                                                                                                                                  ∃ (n_19 : Nat),
                                                                                                                                                                    ∃ (m : Nat),
                                                                                                                                                                      v = agg #[Value.bool b, slice a_10 n_19 m] ∧
                                                                                                                                                                        CallA Try.prog 26
                                                                                                                                                                          [agg #[Value.bool b, slice a_10 n_19 m]] h
                                                                                                                                                                          fun (v : Value) (h : Heap) =>
                                                                                                                                                                          ∃ (n_20 : Int),
                                                                                                                                                                            ∃ (n_21 : Int),
                                                                                                                                                                              v =
                                                                                                                                                                                  tuple
                                                                                                                                                                                    #[int IntKind.i64 n_20,
                                                                                                                                                                                      int IntKind.i64 n_21] ∧
                                                                                                                                                                                CallA Try.prog fn_money_Size [int IntKind.i64 a]
                                                                                                                                                                                  h fun (v : Value) (h : Heap) =>
                                                                                                                                                                                  ∃ (n_22 : Int),
                                                                                                                                                                                    ∃ (n_23 : Int),
                                                                                                                                                                                      v =
                                                                                                                                                                                          tuple
                                                                                                                                                                                            #[int IntKind.i64 n_22,
                                                                                                                                                                                              int IntKind.i64 n_23] ∧
                                                                                                                                                                                        CallA Try.prog 28
                                                                                                                                                                                          [int IntKind.i64 a] h
                                                                                                                                                                                          fun (v : Value) (h : Heap) =>
                                                                                                                                                                                          ∃ (b : Bool),
                                                                                                                                                                                            ∃ (a : Option Addr),
                                                                                                                                                                                              ∃ (n_24 : Nat),
                                                                                                                                                                                                ∃ (m : Nat),
                                                                                                                                                                                                  v =
                                                                                                                                                                                                      agg
                                                                                                                                                                                                        #[Value.bool b,
                                                                                                                                                                                                          slice a n_24 m] ∧
                                                                                                                                                                                                    CallA Try.prog 26
                                                                                                                                                                                                      [agg
                                                                                                                                                                                                          #[Value.bool
                                                                                                                                                                                                              false,
                                                                                                                                                                                                            slice a n_24 m]]
                                                                                                                                                                                                      h
                                                                                                                                                                                                      fun (v : Value)
                                                                                                                                                                                                        (h : Heap) =>
                                                                                                                                                                                                      ∃ (n_25 : Int),
                                                                                                                                                                                                        ∃ (n_26 : Int),
                                                                                                                                                                                                          v =
                                                                                                                                                                                                              tuple
                                                                                                                                                                                                                #[int
                                                                                                                                                                                                                    IntKind.i64
                                                                                                                                                                                                                    n_25,
                                                                                                                                                                                                                  int
                                                                                                                                                                                                                    IntKind.i64
                                                                                                                                                                                                                    n_26] ∧
                                                                                                                                                                                                            Br (n == n_5)
                                                                                                                                                                                                              (Br
                                                                                                                                                                                                                (n_1 == n_6)
                                                                                                                                                                                                                (Br
                                                                                                                                                                                                                  (n_7 ==
                                                                                                                                                                                                                    n_13)
                                                                                                                                                                                                                  (Br
                                                                                                                                                                                                                    (n_8 ==
                                                                                                                                                                                                                      n_14)
                                                                                                                                                                                                                    (Br
                                                                                                                                                                                                                      (n_15 ==
                                                                                                                                                                                                                        n_20)
                                                                                                                                                                                                                      (Br
                                                                                                                                                                                                                        (n_16 ==
                                                                                                                                                                                                                          n_21)
                                                                                                                                                                                                                        (Br
                                                                                                                                                                                                                          (n_22 ==
                                                                                                                                                                                                                            n_25)
                                                                                                                                                                                                                          (Ret
                                                                                                                                                                                                                            h
                                                                                                                                                                                                                            K
                                                                                                                                                                                                                            (Value.bool
                                                                                                                                                                                                                              (n_23 ==
                                                                                                                                                                                                                                n_26)))
                                                                                                                                                                                                                          (Ret
                                                                                                                                                                                                                            h
                                                                                                                                                                                                                            K
                                                                                                                                                                                                                            (Value.bool
                                                                                                                                                                                                                              false)))
                                                                                                                                                                                                                        (Ret
                                                                                                                                                                                                                          h
                                                                                                                                                                                                                          K
                                                                                                                                                                                                                          (Value.bool
                                                                                                                                                                                                                            false)))
                                                                                                                                                                                                                      (Ret h
                                                                                                                                                                                                                        K
                                                                                                                                                                                                                        (Value.bool
                                                                                                                                                                                                                          false)))
                                                                                                                                                                                                                    (Ret h K
                                                                                                                                                                                                                      (Value.bool
                                                                                                                                                                                                                        false)))
                                                                                                                                                                                                                  (Ret h K
                                                                                                                                                                                                                    (Value.bool
                                                                                                                                                                                                                      false)))
                                                                                                                                                                                                                (Ret h K
                                                                                                                                                                                                                  (Value.bool
                                                                                                                                                                                                                    false)))
                                                                                                                                                                                                              (Ret h K
                                                                                                                                                                                                                (Value.bool
                                                                                                                                                                                                                  false)))
theorem F_law01_MoneySums (a : Int) (b : Int) (h : Heap) (K : Value → Heap → Prop) (k : F_law01_MoneySumsT a b h K) : CallA Try.prog fn_law01_MoneySums [int IntKind.i64 a, int IntKind.i64 b] h K :=
  CallA.of_ev Try.func5 (by kernel_rfl) (fun _ _ => Try.call5 _ _) mixed (by kernel_rfl) (by kernel_rfl) k
def F_law01_MoneyPartsT (a : Int) (b : Int) (c : Int) (up : Bool) (h : Heap) (K : Value → Heap → Prop) : Prop :=
  CallA Try.prog fn_law01_awake [] h fun (v : Value) (h : Heap) =>
  ∃ (b_1 : Bool),
    v = Value.bool b_1 ∧
      Br (!b_1) (Ret h K (Value.bool false))
        (CallA Try.prog fn_money_MulDiv [int IntKind.i64 a, int IntKind.i64 b, int IntKind.i64 c, Value.bool up] h fun (v : Value) (h : Heap) =>
          ∃ (n : Int),
            ∃ (n_1 : Int),
              v = tuple #[int IntKind.i64 n, int IntKind.i64 n_1] ∧
                CallA Try.prog fn_ref01_MulDiv [int IntKind.i64 a, int IntKind.i64 b, int IntKind.i64 c, Value.bool up] h fun (v : Value) (h : Heap) =>
                  ∃ (n_2 : Int), ∃ (n_3 : Int), v = tuple #[int IntKind.i64 n_2, int IntKind.i64 n_3] ∧ Br (n == n_2) (Ret h K (Value.bool (n_1 == n_3))) (Ret h K (Value.bool false)))
theorem F_law01_MoneyParts (a : Int) (b : Int) (c : Int) (up : Bool) (h : Heap) (K : Value → Heap → Prop) (k : F_law01_MoneyPartsT a b c up h K) : CallA Try.prog fn_law01_MoneyParts [int IntKind.i64 a, int IntKind.i64 b, int IntKind.i64 c, Value.bool up] h K :=
  CallA.of_ev Try.func6 (by kernel_rfl) (fun _ _ => Try.call6 _ _) mixed (by kernel_rfl) (by kernel_rfl) k
def F_law01_MoneyTotalsT (a : Int) (l : Option Addr) (ln : Nat) (lc : Nat) (h : Heap) (K : Value → Heap → Prop) : Prop :=
  CallA Try.prog fn_law01_awake [] h fun (v : Value) (h : Heap) =>
  ∃ (b : Bool),
    v = Value.bool b ∧
      Br (!b) (Ret h K (Value.bool false))
        (Br (decide ((↑ln : Int) > 200)) (Ret h K (Value.bool true))
          (CallA Try.prog fn_money_Sum [slice l ln lc] h fun (v : Value) (h : Heap) =>
            ∃ (n : Int),
              ∃ (n_1 : Int),
                v = tuple #[int IntKind.i64 n, int IntKind.i64 n_1] ∧
                  CallA Try.prog fn_ref01_Total [slice l ln lc] h fun (v : Value) (h : Heap) =>
                    ∃ (b : Bool),
                      ∃ (a_1 : Option Addr),
                        ∃ (n_2 : Nat),
                          ∃ (m : Nat),
                            v = agg #[Value.bool b, slice a_1 n_2 m] ∧
                              CallA Try.prog fn_ref01_Fit [agg #[Value.bool b, slice a_1 n_2 m]] h fun (v : Value) (h : Heap) =>
                                ∃ (n_3 : Int),
                                  ∃ (n_4 : Int),
                                    v = tuple #[int IntKind.i64 n_3, int IntKind.i64 n_4] ∧
                                      CallA Try.prog fn_money_Chain [int IntKind.i64 a, slice l ln lc] h fun (v : Value) (h : Heap) =>
                                        ∃ (n_5 : Int),
                                          ∃ (n_6 : Int),
                                            v = tuple #[int IntKind.i64 n_5, int IntKind.i64 n_6] ∧
                                              CallA Try.prog fn_ref01_Chain [int IntKind.i64 a, slice l ln lc] h fun (v : Value) (h : Heap) =>
                                                ∃ (n_7 : Int),
                                                  ∃ (n_8 : Int),
                                                    v = tuple #[int IntKind.i64 n_7, int IntKind.i64 n_8] ∧
                                                      Br (n == n_3) (Br (n_1 == n_4) (Br (n_5 == n_7) (Ret h K (Value.bool (n_6 == n_8))) (Ret h K (Value.bool false))) (Ret h K (Value.bool false)))
                                                        (Ret h K (Value.bool false))))
theorem F_law01_MoneyTotals (a : Int) (l : Option Addr) (ln : Nat) (lc : Nat) (h : Heap) (K : Value → Heap → Prop) (k : F_law01_MoneyTotalsT a l ln lc h K) : CallA Try.prog fn_law01_MoneyTotals [int IntKind.i64 a, slice l ln lc] h K :=
  CallA.of_ev Try.func7 (by kernel_rfl) (fun _ _ => Try.call7 _ _) mixed (by kernel_rfl) (by kernel_rfl) k
end Go.Proofs.Ythojacmegofhcaa
