import Derived.Test.YthojacmegofhcaaEqN
namespace Go.Proofs.Ythojacmegofhcaa
open Go Go.Sy Go.Value
set_option linter.unusedVariables false
def F_law01_MoneyBackT (a : Int) (b : Int) (l : Option Addr) (ln : Nat) (lc : Nat) (h : Heap) (K : Value → Heap → Prop) : Prop :=
  CallA Try.prog fn_law01_awake [] h fun (v : Value) (h : Heap) =>
  ∃ (b_1 : Bool),
    v = Value.bool b_1 ∧
      Br (!b_1) (Ret h K (Value.bool false))
        (Br (decide ((↑ln : Int) > 200)) (Ret h K (Value.bool true))
          (CallA Try.prog fn_money_Add [int IntKind.i64 a, int IntKind.i64 b] h fun (v : Value) (h : Heap) =>
            ∃ (n : Int),
              ∃ (n_1 : Int),
                v = tuple #[int IntKind.i64 n, int IntKind.i64 n_1] ∧
                  CallA Try.prog fn_money_Add [int IntKind.i64 b, int IntKind.i64 a] h fun (v : Value) (h : Heap) =>
                    ∃ (n_2 : Int),
                      ∃ (n_3 : Int),
                        v = tuple #[int IntKind.i64 n_2, int IntKind.i64 n_3] ∧
                          CallA Try.prog fn_money_Mul [int IntKind.i64 a, int IntKind.i64 b] h fun (v : Value) (h : Heap) =>
                            ∃ (n_4 : Int),
                              ∃ (n_5 : Int),
                                v = tuple #[int IntKind.i64 n_4, int IntKind.i64 n_5] ∧
                                  CallA Try.prog fn_money_Mul [int IntKind.i64 b, int IntKind.i64 a] h fun (v : Value) (h : Heap) =>
                                    ∃ (n_6 : Int),
                                      ∃ (n_7 : Int),
                                        v = tuple #[int IntKind.i64 n_6, int IntKind.i64 n_7] ∧
                                          Br (n != n_2) (Ret h K (Value.bool false))
                                            (Br (n_1 != n_3) (Ret h K (Value.bool false))
                                              (Br (n_4 != n_6) (Ret h K (Value.bool false))
                                                (Br (n_5 != n_7) (Ret h K (Value.bool false))
                                                  (Br (n_1 == 0)
                                                    (CallA Try.prog fn_money_Sub [int IntKind.i64 n, int IntKind.i64 b] h fun (v : Value) (h : Heap) =>
                                                      ∃ (n : Int),
                                                        ∃ (n_8 : Int),
                                                          v = tuple #[int IntKind.i64 n, int IntKind.i64 n_8] ∧
                                                            Br (n != a) (Ret h K (Value.bool false))
                                                              (Br (n_8 != 0) (Ret h K (Value.bool false))
                                                                (CallA Try.prog fn_money_Chain [int IntKind.i64 a, slice l ln lc] h fun (v : Value) (h : Heap) =>
                                                                  ∃ (n : Int),
                                                                    ∃ (n_9 : Int),
                                                                      v = tuple #[int IntKind.i64 n, int IntKind.i64 n_9] ∧
                                                                        newB h [int IntKind.i64 a] 2 fun (r : Nat) (h : Heap) =>
                                                                          AppA [int IntKind.i64 0] 2 h (some { block := r, off := 0 }) 1 1 ln l fun (ap : Option Addr) (cp : Nat) (h : Heap) =>
                                                                            CallA Try.prog fn_money_Sum [slice ap (1 + ln) cp] h fun (v : Value) (h : Heap) =>
                                                                              ∃ (n_10 : Int),
                                                                                ∃ (n_11 : Int),
                                                                                  v = tuple #[int IntKind.i64 n_10, int IntKind.i64 n_11] ∧
                                                                                    Br (n_9 != 0) (Br (n == 0) (Ret h K (Value.bool true)) (Br (n_11 == 0) (Ret h K (Value.bool (n == n_10))) (Ret h K (Value.bool false))))
                                                                                      (Br (n_11 == 0) (Ret h K (Value.bool (n == n_10))) (Ret h K (Value.bool false))))))
                                                    (CallA Try.prog fn_money_Chain [int IntKind.i64 a, slice l ln lc] h fun (v : Value) (h : Heap) =>
                                                      ∃ (n : Int),
                                                        ∃ (n_8 : Int),
                                                          v = tuple #[int IntKind.i64 n, int IntKind.i64 n_8] ∧
                                                            newB h [int IntKind.i64 a] 2 fun (r : Nat) (h : Heap) =>
                                                              AppA [int IntKind.i64 0] 2 h (some { block := r, off := 0 }) 1 1 ln l fun (ap : Option Addr) (cp : Nat) (h : Heap) =>
                                                                CallA Try.prog fn_money_Sum [slice ap (1 + ln) cp] h fun (v : Value) (h : Heap) =>
                                                                  ∃ (n_9 : Int),
                                                                    ∃ (n_10 : Int),
                                                                      v = tuple #[int IntKind.i64 n_9, int IntKind.i64 n_10] ∧
                                                                        Br (n_8 != 0) (Br (n == 0) (Ret h K (Value.bool true)) (Br (n_10 == 0) (Ret h K (Value.bool (n == n_9))) (Ret h K (Value.bool false))))
                                                                          (Br (n_10 == 0) (Ret h K (Value.bool (n == n_9))) (Ret h K (Value.bool false))))))))))
theorem F_law01_MoneyBack (a : Int) (b : Int) (l : Option Addr) (ln : Nat) (lc : Nat) (h : Heap) (K : Value → Heap → Prop) (k : F_law01_MoneyBackT a b l ln lc h K) : CallA Try.prog fn_law01_MoneyBack [int IntKind.i64 a, int IntKind.i64 b, slice l ln lc] h K :=
  CallA.of_ev Try.func8 (by kernel_rfl) (fun _ _ => Try.call8 _ _) mixed (by kernel_rfl) (by kernel_rfl) k
end Go.Proofs.Ythojacmegofhcaa
