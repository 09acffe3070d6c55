import Derived.Test.YtghdadniddoboaaEqN
namespace Go.Proofs.Ytghdadniddoboaa
open Go Go.Sy Go.Value
set_option linter.unusedVariables false
set_option maxRecDepth 100000
def L_law02_SplitFills_0 (rooms : Option Addr) (roomsn : Nat) (roomsc : Nat) (left : Int) (full : Bool) (t58 : Option Addr) (t58n : Nat) (t58c : Nat) (t59 : Int) (t60 : Int) (h : Heap) (K : Value → Heap → Prop) : Prop :=
 LoopAt Try.prog Try.f6 6 (loopK Try.f6 0) (sp 98 [(1, slice rooms roomsn roomsc), (6, int IntKind.i64 left), (10, Value.bool full), (58, slice t58 t58n t58c), (59, int IntKind.i64 t59), (60, int IntKind.i64 t60)]) h K
def L_law02_SplitFills_0T (rooms : Option Addr) (roomsn : Nat) (roomsc : Nat) (left : Int) (full : Bool) (t58 : Option Addr) (t58n : Nat) (t58c : Nat) (t59 : Int) (t60 : Int) (h : Heap) (K : Value → Heap → Prop) : Prop :=
 Br (decide (t60 < t59))
 (0 ≤ t60 ∧
 t60 < (↑t58n : Int) ∧
 withAddr t58 fun (b o : Nat) =>
 ∃ (n : Int),
 Heap.cell h b (o + Int.toNat t60) = some (int IntKind.i64 n) ∧
 Br (decide (n < 0)) (Ret h K (Value.bool false))
 (0 ≤ t60 ∧
 t60 < (↑roomsn : Int) ∧
 withAddr rooms fun (b o : Nat) =>
 ∃ (n_1 : Int),
 Heap.cell h b (o + Int.toNat t60) = some (int IntKind.i64 n_1) ∧
 Br (decide (n > n_1)) (Ret h K (Value.bool false))
 (Br (decide (n > 0))
 (Br (!full) (Ret h K (Value.bool false))
 (Br full
 (0 ≤ t60 ∧
 t60 < (↑roomsn : Int) ∧
 withAddr rooms fun (b o : Nat) =>
 ∃ (n_2 : Int), Heap.cell h b (o + Int.toNat t60) = some (int IntKind.i64 n_2) ∧ L_law02_SplitFills_0 rooms roomsn roomsc left (n == n_2) t58 t58n t58c t59 (IntKind.wrap IntKind.i64 (t60 + 1)) h K)
 (L_law02_SplitFills_0 rooms roomsn roomsc left false t58 t58n t58c t59 (IntKind.wrap IntKind.i64 (t60 + 1)) h K)))
 (Br full
 (0 ≤ t60 ∧
 t60 < (↑roomsn : Int) ∧
 withAddr rooms fun (b o : Nat) =>
 ∃ (n_2 : Int), Heap.cell h b (o + Int.toNat t60) = some (int IntKind.i64 n_2) ∧ L_law02_SplitFills_0 rooms roomsn roomsc left (n == n_2) t58 t58n t58c t59 (IntKind.wrap IntKind.i64 (t60 + 1)) h K)
 (L_law02_SplitFills_0 rooms roomsn roomsc left false t58 t58n t58c t59 (IntKind.wrap IntKind.i64 (t60 + 1)) h K)))))
 (Br (left == 0) (Ret h K (Value.bool true)) (Ret h K (Value.bool full)))
theorem L_law02_SplitFills_0r (rooms : Option Addr) (roomsn : Nat) (roomsc : Nat) (left : Int) (full : Bool) (t58 : Option Addr) (t58n : Nat) (t58c : Nat) (t59 : Int) (t60 : Int) (h : Heap) (K : Value → Heap → Prop) (k : L_law02_SplitFills_0T rooms roomsn roomsc left full t58 t58n t58c t59 t60 h K) : L_law02_SplitFills_0 rooms roomsn roomsc left full t58 t58n t58c t59 t60 h K :=
 LoopAt.of_ev (cs := []) Try.func6 mixed (fun junk => by kernel_rfl) k
def F_law02_SplitFillsT (total : Int) (rooms : Option Addr) (roomsn : Nat) (roomsc : Nat) (h : Heap) (K : Value → Heap → Prop) : Prop :=
 CallA Try.prog fn_law02_awake [] h fun (v : Value) (h : Heap) =>
 ∃ (b : Bool),
 v = Value.bool b ∧
 Br (!b) (Ret h K (Value.bool false))
 (Br (decide ((↑roomsn : Int) > 70)) (Ret h K (Value.bool true))
 (CallA Try.prog fn_split_Fill [int IntKind.i64 total, slice rooms roomsn roomsc] h fun (v : Value) (h : Heap) =>
 ∃ (a : Option Addr),
 ∃ (n : Nat),
 ∃ (m : Nat),
 ∃ (n_1 : Int),
 ∃ (n_2 : Int),
 v = tuple #[slice a n m, int IntKind.i64 n_1, int IntKind.i64 n_2] ∧
 Br (n_2 != 0) (Br ((↑n : Int) == 0) (Ret h K (Value.bool (n_1 == 0))) (Ret h K (Value.bool false)))
 (CallA Try.prog fn_money_Chain [int IntKind.i64 n_1, slice a n m] h fun (v : Value) (h : Heap) =>
 ∃ (n_3 : Int),
 ∃ (n_4 : Int),
 v = tuple #[int IntKind.i64 n_3, int IntKind.i64 n_4] ∧
 Br (n_4 != 0) (Ret h K (Value.bool false))
 (Br (n_3 != total) (Ret h K (Value.bool false))
 (Br ((↑n : Int) != (↑roomsn : Int)) (Ret h K (Value.bool false)) (Br (decide (n_1 < 0)) (Ret h K (Value.bool false)) (L_law02_SplitFills_0 rooms roomsn roomsc n_1 true a n m (↑n : Int) 0 h K)))))))
theorem F_law02_SplitFills (total : Int) (rooms : Option Addr) (roomsn : Nat) (roomsc : Nat) (h : Heap) (K : Value → Heap → Prop) (k : F_law02_SplitFillsT total rooms roomsn roomsc h K) : CallA Try.prog fn_law02_SplitFills [int IntKind.i64 total, slice rooms roomsn roomsc] h K :=
 CallA.of_ev (cs := []) Try.func6 (by kernel_rfl) (fun _ _ => Try.call6 _ _) mixed (by kernel_rfl) (by kernel_rfl) k
end Go.Proofs.Ytghdadniddoboaa
