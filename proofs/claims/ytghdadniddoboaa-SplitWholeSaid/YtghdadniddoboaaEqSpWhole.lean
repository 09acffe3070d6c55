import Derived.Test.YtghdadniddoboaaEqN
namespace Go.Proofs.Ytghdadniddoboaa
open Go Go.Sy Go.Value
set_option linter.unusedVariables false
set_option maxRecDepth 100000
def L_law02_SplitWhole_0 (total : Int) (weights : Option Addr) (weightsn : Nat) (weightsc : Nat) (l : Option Addr) (ln : Nat) (lc : Nat) (sum : Int) (f : Int) (t32 : Option Addr) (t32n : Nat) (t32c : Nat) (t33 : Int) (t34 : Int) (h : Heap) (K : Value → Heap → Prop) : Prop :=
 LoopAt Try.prog Try.f4 4 (loopK Try.f4 0) (sp 72 [(0, int IntKind.i64 total), (1, slice weights weightsn weightsc), (5, slice l ln lc), (7, int IntKind.i64 sum), (8, int IntKind.i64 f), (32, slice t32 t32n t32c), (33, int IntKind.i64 t33), (34, int IntKind.i64 t34)]) h K
def L_law02_SplitWhole_0T (total : Int) (weights : Option Addr) (weightsn : Nat) (weightsc : Nat) (l : Option Addr) (ln : Nat) (lc : Nat) (sum : Int) (f : Int) (t32 : Option Addr) (t32n : Nat) (t32c : Nat) (t33 : Int) (t34 : Int) (h : Heap) (K : Value → Heap → Prop) : Prop :=
 Br (decide (t34 < t33))
 (0 ≤ t34 ∧
 t34 < (↑t32n : Int) ∧
 withAddr t32 fun (b o : Nat) =>
 ∃ (n : Int),
 Heap.cell h b (o + Int.toNat t34) = some (int IntKind.i64 n) ∧
 Br (decide (n < 0)) (Ret h K (Value.bool false))
 (Br (decide (n > total)) (Ret h K (Value.bool false))
 (0 ≤ t34 ∧
 t34 < (↑weightsn : Int) ∧
 withAddr weights fun (b o : Nat) =>
 ∃ (n_1 : Int),
 Heap.cell h b (o + Int.toNat t34) = some (int IntKind.i64 n_1) ∧
 Br (n_1 == 0) (Br (decide (n > 0)) (Ret h K (Value.bool false)) (L_law02_SplitWhole_0 total weights weightsn weightsc l ln lc sum f t32 t32n t32c t33 (IntKind.wrap IntKind.i64 (t34 + 1)) h K))
 (L_law02_SplitWhole_0 total weights weightsn weightsc l ln lc sum f t32 t32n t32c t33 (IntKind.wrap IntKind.i64 (t34 + 1)) h K))))
 (Br (f == 0) (Br (sum == total) (Ret h K (Value.bool ((↑ln : Int) == (↑weightsn : Int)))) (Ret h K (Value.bool false))) (Ret h K (Value.bool false)))
theorem L_law02_SplitWhole_0r (total : Int) (weights : Option Addr) (weightsn : Nat) (weightsc : Nat) (l : Option Addr) (ln : Nat) (lc : Nat) (sum : Int) (f : Int) (t32 : Option Addr) (t32n : Nat) (t32c : Nat) (t33 : Int) (t34 : Int) (h : Heap) (K : Value → Heap → Prop) (k : L_law02_SplitWhole_0T total weights weightsn weightsc l ln lc sum f t32 t32n t32c t33 t34 h K) : L_law02_SplitWhole_0 total weights weightsn weightsc l ln lc sum f t32 t32n t32c t33 t34 h K :=
 LoopAt.of_ev (cs := []) Try.func4 mixed (fun junk => by kernel_rfl) k
def F_law02_SplitWholeT (total : Int) (weights : Option Addr) (weightsn : Nat) (weightsc : Nat) (h : Heap) (K : Value → Heap → Prop) : Prop :=
 CallA Try.prog fn_law02_awake [] h fun (v : Value) (h : Heap) =>
 ∃ (b : Bool),
 v = Value.bool b ∧
 Br (!b) (Ret h K (Value.bool false))
 (Br (decide ((↑weightsn : Int) > 70)) (Ret h K (Value.bool true))
 (CallA Try.prog fn_split_Shares [int IntKind.i64 total, slice weights weightsn weightsc] h fun (v : Value) (h : Heap) =>
 ∃ (a : Option Addr),
 ∃ (n : Nat),
 ∃ (m : Nat),
 ∃ (n_1 : Int),
 v = tuple #[slice a n m, int IntKind.i64 n_1] ∧
 Br (n_1 != 0) (Ret h K (Value.bool ((↑n : Int) == 0)))
 (CallA Try.prog fn_money_Sum [slice a n m] h fun (v : Value) (h : Heap) =>
 ∃ (n_2 : Int), ∃ (n_3 : Int), v = tuple #[int IntKind.i64 n_2, int IntKind.i64 n_3] ∧ L_law02_SplitWhole_0 total weights weightsn weightsc a n m n_2 n_3 a n m (↑n : Int) 0 h K)))
theorem F_law02_SplitWhole (total : Int) (weights : Option Addr) (weightsn : Nat) (weightsc : Nat) (h : Heap) (K : Value → Heap → Prop) (k : F_law02_SplitWholeT total weights weightsn weightsc h K) : CallA Try.prog fn_law02_SplitWhole [int IntKind.i64 total, slice weights weightsn weightsc] h K :=
 CallA.of_ev (cs := []) Try.func4 (by kernel_rfl) (fun _ _ => Try.call4 _ _) mixed (by kernel_rfl) (by kernel_rfl) k
end Go.Proofs.Ytghdadniddoboaa
