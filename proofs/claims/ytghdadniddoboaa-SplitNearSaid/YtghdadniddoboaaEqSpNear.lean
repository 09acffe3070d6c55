import Derived.Test.YtghdadniddoboaaEqN
namespace Go.Proofs.Ytghdadniddoboaa
open Go Go.Sy Go.Value
set_option linter.unusedVariables false
set_option maxRecDepth 100000
def L_law02_SplitNear_0 (total : Int) (weights : Option Addr) (weightsn : Nat) (weightsc : Nat) (l : Option Addr) (ln : Nat) (lc : Nat) (sum : Int) (t48 : Option Addr) (t48n : Nat) (t48c : Nat) (t49 : Int) (t50 : Int) (h : Heap) (K : Value → Heap → Prop) : Prop :=
 LoopAt Try.prog Try.f5 5 (loopK Try.f5 0) (sp 147 [(0, int IntKind.i64 total), (1, slice weights weightsn weightsc), (5, slice l ln lc), (7, int IntKind.i64 sum), (48, slice t48 t48n t48c), (49, int IntKind.i64 t49), (50, int IntKind.i64 t50)]) h K
def L_law02_SplitNear_1 (total : Int) (weights : Option Addr) (weightsn : Nat) (weightsc : Nat) (l : Option Addr) (ln : Nat) (lc : Nat) (sum : Int) (i : Int) (w : Int) (t48 : Option Addr) (t48n : Nat) (t48c : Nat) (t49 : Int) (t50 : Int) (t91 : Option Addr) (t91n : Nat) (t91c : Nat) (t92 : Int) (t93 : Int) (h : Heap) (K : Value → Heap → Prop) : Prop :=
 LoopAt Try.prog Try.f5 5 (loopK Try.f5 1) (sp 147 [(0, int IntKind.i64 total), (1, slice weights weightsn weightsc), (5, slice l ln lc), (7, int IntKind.i64 sum), (9, int IntKind.i64 i), (10, int IntKind.i64 w), (48, slice t48 t48n t48c), (49, int IntKind.i64 t49),
 (50, int IntKind.i64 t50), (91, slice t91 t91n t91c), (92, int IntKind.i64 t92), (93, int IntKind.i64 t93)]) h K
def L_law02_SplitNear_0T (total : Int) (weights : Option Addr) (weightsn : Nat) (weightsc : Nat) (l : Option Addr) (ln : Nat) (lc : Nat) (sum : Int) (t48 : Option Addr) (t48n : Nat) (t48c : Nat) (t49 : Int) (t50 : Int) (h : Heap) (K : Value → Heap → Prop) : Prop :=
 Br (decide (t50 < t49))
 (0 ≤ t50 ∧
 t50 < (↑t48n : Int) ∧
 withAddr t48 fun (b o : Nat) =>
 ∃ (n : Int),
 Heap.cell h b (o + Int.toNat t50) = some (int IntKind.i64 n) ∧
 CallA Try.prog fn_money_MulDiv [int IntKind.i64 total, int IntKind.i64 n, int IntKind.i64 sum, Value.bool false] h fun (v : Value) (h : Heap) =>
 ∃ (n_1 : Int),
 ∃ (n_2 : Int),
 v = tuple #[int IntKind.i64 n_1, int IntKind.i64 n_2] ∧
 CallA Try.prog fn_money_MulDiv [int IntKind.i64 total, int IntKind.i64 n, int IntKind.i64 sum, Value.bool true] h fun (v : Value) (h : Heap) =>
 ∃ (n_3 : Int),
 ∃ (n_4 : Int),
 v = tuple #[int IntKind.i64 n_3, int IntKind.i64 n_4] ∧
 Br (n_2 != 0) (Ret h K (Value.bool false))
 (Br (n_4 != 0) (Ret h K (Value.bool false))
 (0 ≤ t50 ∧
 t50 < (↑ln : Int) ∧
 withAddr l fun (b o : Nat) =>
 ∃ (n_5 : Int),
 Heap.cell h b (o + Int.toNat t50) = some (int IntKind.i64 n_5) ∧
 Br (decide (n_5 < n_1)) (Ret h K (Value.bool false))
 (0 ≤ t50 ∧
 t50 < (↑ln : Int) ∧
 withAddr l fun (b o : Nat) =>
 ∃ (n_6 : Int),
 Heap.cell h b (o + Int.toNat t50) = some (int IntKind.i64 n_6) ∧
 Br (decide (n_6 > n_3)) (Ret h K (Value.bool false))
 (L_law02_SplitNear_1 total weights weightsn weightsc l ln lc sum t50 n t48 t48n t48c t49 t50 weights weightsn weightsc (↑weightsn : Int) 0 h K)))))
 (Ret h K (Value.bool true))
theorem L_law02_SplitNear_0r (total : Int) (weights : Option Addr) (weightsn : Nat) (weightsc : Nat) (l : Option Addr) (ln : Nat) (lc : Nat) (sum : Int) (t48 : Option Addr) (t48n : Nat) (t48c : Nat) (t49 : Int) (t50 : Int) (h : Heap) (K : Value → Heap → Prop) (k : L_law02_SplitNear_0T total weights weightsn weightsc l ln lc sum t48 t48n t48c t49 t50 h K) : L_law02_SplitNear_0 total weights weightsn weightsc l ln lc sum t48 t48n t48c t49 t50 h K :=
 LoopAt.of_ev (cs := []) Try.func5 mixed (fun junk => by kernel_rfl) k
def L_law02_SplitNear_1T (total : Int) (weights : Option Addr) (weightsn : Nat) (weightsc : Nat) (l : Option Addr) (ln : Nat) (lc : Nat) (sum : Int) (i : Int) (w : Int) (t48 : Option Addr) (t48n : Nat) (t48c : Nat) (t49 : Int) (t50 : Int) (t91 : Option Addr) (t91n : Nat) (t91c : Nat) (t92 : Int) (t93 : Int) (h : Heap) (K : Value → Heap → Prop) : Prop :=
 Br (decide (t93 < t92))
 (0 ≤ t93 ∧
 t93 < (↑t91n : Int) ∧
 withAddr t91 fun (b o : Nat) =>
 ∃ (n : Int),
 Heap.cell h b (o + Int.toNat t93) = some (int IntKind.i64 n) ∧
 Br (decide (w > n))
 (0 ≤ i ∧
 i < (↑ln : Int) ∧
 withAddr l fun (b o : Nat) =>
 ∃ (n_1 : Int),
 Heap.cell h b (o + Int.toNat i) = some (int IntKind.i64 n_1) ∧
 0 ≤ t93 ∧
 t93 < (↑ln : Int) ∧
 withAddr l fun (b o : Nat) =>
 ∃ (n_2 : Int),
 Heap.cell h b (o + Int.toNat t93) = some (int IntKind.i64 n_2) ∧
 Br (decide (n_1 < n_2)) (Ret h K (Value.bool false))
 (Br (w == n)
 (0 ≤ i ∧
 i < (↑ln : Int) ∧
 withAddr l fun (b o : Nat) =>
 ∃ (n : Int),
 Heap.cell h b (o + Int.toNat i) = some (int IntKind.i64 n) ∧
 0 ≤ t93 ∧
 t93 < (↑ln : Int) ∧
 withAddr l fun (b o : Nat) =>
 ∃ (n_3 : Int),
 Heap.cell h b (o + Int.toNat t93) = some (int IntKind.i64 n_3) ∧
 Br (decide (IntKind.wrap IntKind.i64 (n - 1) > n_3)) (Ret h K (Value.bool false))
 (Br (decide (i < t93))
 (0 ≤ i ∧
 i < (↑ln : Int) ∧
 withAddr l fun (b o : Nat) =>
 ∃ (n : Int),
 Heap.cell h b (o + Int.toNat i) = some (int IntKind.i64 n) ∧
 0 ≤ t93 ∧
 t93 < (↑ln : Int) ∧
 withAddr l fun (b o : Nat) =>
 ∃ (n_4 : Int),
 Heap.cell h b (o + Int.toNat t93) = some (int IntKind.i64 n_4) ∧
 Br (decide (n < n_4)) (Ret h K (Value.bool false))
 (L_law02_SplitNear_1 total weights weightsn weightsc l ln lc sum i w t48 t48n t48c t49 t50 t91 t91n t91c t92 (IntKind.wrap IntKind.i64 (t93 + 1)) h K))
 (L_law02_SplitNear_1 total weights weightsn weightsc l ln lc sum i w t48 t48n t48c t49 t50 t91 t91n t91c t92 (IntKind.wrap IntKind.i64 (t93 + 1)) h K)))
 (L_law02_SplitNear_1 total weights weightsn weightsc l ln lc sum i w t48 t48n t48c t49 t50 t91 t91n t91c t92 (IntKind.wrap IntKind.i64 (t93 + 1)) h K)))
 (Br (w == n)
 (0 ≤ i ∧
 i < (↑ln : Int) ∧
 withAddr l fun (b o : Nat) =>
 ∃ (n : Int),
 Heap.cell h b (o + Int.toNat i) = some (int IntKind.i64 n) ∧
 0 ≤ t93 ∧
 t93 < (↑ln : Int) ∧
 withAddr l fun (b o : Nat) =>
 ∃ (n_1 : Int),
 Heap.cell h b (o + Int.toNat t93) = some (int IntKind.i64 n_1) ∧
 Br (decide (IntKind.wrap IntKind.i64 (n - 1) > n_1)) (Ret h K (Value.bool false))
 (Br (decide (i < t93))
 (0 ≤ i ∧
 i < (↑ln : Int) ∧
 withAddr l fun (b o : Nat) =>
 ∃ (n : Int),
 Heap.cell h b (o + Int.toNat i) = some (int IntKind.i64 n) ∧
 0 ≤ t93 ∧
 t93 < (↑ln : Int) ∧
 withAddr l fun (b o : Nat) =>
 ∃ (n_2 : Int),
 Heap.cell h b (o + Int.toNat t93) = some (int IntKind.i64 n_2) ∧
 Br (decide (n < n_2)) (Ret h K (Value.bool false))
 (L_law02_SplitNear_1 total weights weightsn weightsc l ln lc sum i w t48 t48n t48c t49 t50 t91 t91n t91c t92 (IntKind.wrap IntKind.i64 (t93 + 1)) h K))
 (L_law02_SplitNear_1 total weights weightsn weightsc l ln lc sum i w t48 t48n t48c t49 t50 t91 t91n t91c t92 (IntKind.wrap IntKind.i64 (t93 + 1)) h K)))
 (L_law02_SplitNear_1 total weights weightsn weightsc l ln lc sum i w t48 t48n t48c t49 t50 t91 t91n t91c t92 (IntKind.wrap IntKind.i64 (t93 + 1)) h K)))
 (L_law02_SplitNear_0 total weights weightsn weightsc l ln lc sum t48 t48n t48c t49 (IntKind.wrap IntKind.i64 (t50 + 1)) h K)
theorem L_law02_SplitNear_1r (total : Int) (weights : Option Addr) (weightsn : Nat) (weightsc : Nat) (l : Option Addr) (ln : Nat) (lc : Nat) (sum : Int) (i : Int) (w : Int) (t48 : Option Addr) (t48n : Nat) (t48c : Nat) (t49 : Int) (t50 : Int) (t91 : Option Addr) (t91n : Nat) (t91c : Nat) (t92 : Int) (t93 : Int) (h : Heap) (K : Value → Heap → Prop) (k : L_law02_SplitNear_1T total weights weightsn weightsc l ln lc sum i w t48 t48n t48c t49 t50 t91 t91n t91c t92 t93 h K) : L_law02_SplitNear_1 total weights weightsn weightsc l ln lc sum i w t48 t48n t48c t49 t50 t91 t91n t91c t92 t93 h K :=
 LoopAt.of_ev (cs := []) Try.func5 mixed (fun junk => by kernel_rfl) k
def F_law02_SplitNearT (total : Int) (weights : Option Addr) (weightsn : Nat) (weightsc : Nat) (h : Heap) (K : Value → Heap → Prop) : Prop :=
 CallA Try.prog fn_law02_awake [] h fun (v : Value) (h : Heap) =>
 ∃ (b : Bool),
 v = Value.bool b ∧
 Br (!b) (Ret h K (Value.bool false))
 (Br (decide ((↑weightsn : Int) > 70)) (Ret h K (Value.bool true))
 (CallA Try.prog fn_split_Shares [int IntKind.i64 total, slice weights weightsn weightsc] h fun (v : Value) (h : Heap) =>
 ∃ (a : Option Addr),
 ∃ (n : Nat),
 ∃ (m : Nat),
 ∃ (n_1 : Int),
 v = tuple #[slice a n m, int IntKind.i64 n_1] ∧
 CallA Try.prog fn_money_Sum [slice weights weightsn weightsc] h fun (v : Value) (h : Heap) =>
 ∃ (n_2 : Int),
 ∃ (n_3 : Int),
 v = tuple #[int IntKind.i64 n_2, int IntKind.i64 n_3] ∧
 Br (n_1 != 0) (Ret h K (Value.bool (n_1 != 0)))
 (Br (n_3 != 0) (Ret h K (Value.bool (n_1 != 0)))
 (Br ((↑n : Int) != (↑weightsn : Int)) (Ret h K (Value.bool (n_1 != 0))) (L_law02_SplitNear_0 total weights weightsn weightsc a n m n_2 weights weightsn weightsc (↑weightsn : Int) 0 h K)))))
theorem F_law02_SplitNear (total : Int) (weights : Option Addr) (weightsn : Nat) (weightsc : Nat) (h : Heap) (K : Value → Heap → Prop) (k : F_law02_SplitNearT total weights weightsn weightsc h K) : CallA Try.prog fn_law02_SplitNear [int IntKind.i64 total, slice weights weightsn weightsc] h K :=
 CallA.of_ev (cs := []) Try.func5 (by kernel_rfl) (fun _ _ => Try.call5 _ _) mixed (by kernel_rfl) (by kernel_rfl) k
end Go.Proofs.Ytghdadniddoboaa
