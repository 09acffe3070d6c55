import Derived.Test.YtghdadniddoboaaEqN
namespace Go.Proofs.Ytghdadniddoboaa
open Go Go.Sy Go.Value
set_option linter.unusedVariables false
set_option maxRecDepth 100000
def L_slices_partitionCmpFunc_int_0 (data : Option Addr) (datan : Nat) (datac : Nat) (a : Int) (cmp_0_0 : Option Addr) (cmp_0_0n : Nat) (cmp_0_0c : Nat) (i : Int) (j : Int) (h : Heap) (K : Value → Heap → Prop) : Prop :=
 LoopAt Try.prog Try.f144 144 (loopK Try.f144 0) (sp 178 [(0, slice data datan datac), (1, int IntKind.i64 a), (4, func (Fn.func fn_split_by_order) #[agg #[slice cmp_0_0 cmp_0_0n cmp_0_0c]] #[]), (12, int IntKind.i64 i), (13, int IntKind.i64 j)]) h K
def L_slices_partitionCmpFunc_int_1 (data : Option Addr) (datan : Nat) (datac : Nat) (a : Int) (cmp_0_0 : Option Addr) (cmp_0_0n : Nat) (cmp_0_0c : Nat) (i : Int) (j : Int) (h : Heap) (K : Value → Heap → Prop) : Prop :=
 LoopAt Try.prog Try.f144 144 (loopK Try.f144 1) (sp 178 [(0, slice data datan datac), (1, int IntKind.i64 a), (4, func (Fn.func fn_split_by_order) #[agg #[slice cmp_0_0 cmp_0_0n cmp_0_0c]] #[]), (12, int IntKind.i64 i), (13, int IntKind.i64 j)]) h K
def L_slices_partitionCmpFunc_int_2 (data : Option Addr) (datan : Nat) (datac : Nat) (a : Int) (cmp_0_0 : Option Addr) (cmp_0_0n : Nat) (cmp_0_0c : Nat) (i : Int) (j : Int) (h : Heap) (K : Value → Heap → Prop) : Prop :=
 LoopAt Try.prog Try.f144 144 (loopK Try.f144 2) (sp 178 [(0, slice data datan datac), (1, int IntKind.i64 a), (4, func (Fn.func fn_split_by_order) #[agg #[slice cmp_0_0 cmp_0_0n cmp_0_0c]] #[]), (12, int IntKind.i64 i), (13, int IntKind.i64 j)]) h K
def L_slices_partitionCmpFunc_int_3 (data : Option Addr) (datan : Nat) (datac : Nat) (a : Int) (cmp_0_0 : Option Addr) (cmp_0_0n : Nat) (cmp_0_0c : Nat) (i : Int) (j : Int) (h : Heap) (K : Value → Heap → Prop) : Prop :=
 LoopAt Try.prog Try.f144 144 (loopK Try.f144 3) (sp 178 [(0, slice data datan datac), (1, int IntKind.i64 a), (4, func (Fn.func fn_split_by_order) #[agg #[slice cmp_0_0 cmp_0_0n cmp_0_0c]] #[]), (12, int IntKind.i64 i), (13, int IntKind.i64 j)]) h K
def L_slices_partitionCmpFunc_int_4 (data : Option Addr) (datan : Nat) (datac : Nat) (a : Int) (cmp_0_0 : Option Addr) (cmp_0_0n : Nat) (cmp_0_0c : Nat) (i : Int) (j : Int) (h : Heap) (K : Value → Heap → Prop) : Prop :=
 LoopAt Try.prog Try.f144 144 (loopK Try.f144 4) (sp 178 [(0, slice data datan datac), (1, int IntKind.i64 a), (4, func (Fn.func fn_split_by_order) #[agg #[slice cmp_0_0 cmp_0_0n cmp_0_0c]] #[]), (12, int IntKind.i64 i), (13, int IntKind.i64 j)]) h K
def L_slices_partitionCmpFunc_int_0T (data : Option Addr) (datan : Nat) (datac : Nat) (a : Int) (cmp_0_0 : Option Addr) (cmp_0_0n : Nat) (cmp_0_0c : Nat) (i : Int) (j : Int) (h : Heap) (K : Value → Heap → Prop) : Prop :=
 Br (decide (i ≤ j))
 (0 ≤ i ∧
 i < (↑datan : Int) ∧
 withAddr data fun (b o : Nat) =>
 ∃ (n : Int),
 Heap.cell h b (o + Int.toNat i) = some (int IntKind.i64 n) ∧
 0 ≤ a ∧
 a < (↑datan : Int) ∧
 withAddr data fun (b o : Nat) =>
 ∃ (n_1 : Int),
 Heap.cell h b (o + Int.toNat a) = some (int IntKind.i64 n_1) ∧
 CallA Try.prog fn_split_by_order [agg #[slice cmp_0_0 cmp_0_0n cmp_0_0c], int IntKind.i64 n, int IntKind.i64 n_1] h fun (v : Value) (h : Heap) =>
 ∃ (n : Int),
 v = int IntKind.i64 n ∧
 Br (decide (n < 0)) (L_slices_partitionCmpFunc_int_0 data datan datac a cmp_0_0 cmp_0_0n cmp_0_0c (IntKind.wrap IntKind.i64 (i + 1)) j h K) (L_slices_partitionCmpFunc_int_1 data datan datac a cmp_0_0 cmp_0_0n cmp_0_0c i j h K))
 (L_slices_partitionCmpFunc_int_1 data datan datac a cmp_0_0 cmp_0_0n cmp_0_0c i j h K)
theorem L_slices_partitionCmpFunc_int_0r (data : Option Addr) (datan : Nat) (datac : Nat) (a : Int) (cmp_0_0 : Option Addr) (cmp_0_0n : Nat) (cmp_0_0c : Nat) (i : Int) (j : Int) (h : Heap) (K : Value → Heap → Prop) (k : L_slices_partitionCmpFunc_int_0T data datan datac a cmp_0_0 cmp_0_0n cmp_0_0c i j h K) : L_slices_partitionCmpFunc_int_0 data datan datac a cmp_0_0 cmp_0_0n cmp_0_0c i j h K :=
 LoopAt.of_ev (cs := []) Try.func144 mixed (fun junk => by kernel_rfl) k
def L_slices_partitionCmpFunc_int_1T (data : Option Addr) (datan : Nat) (datac : Nat) (a : Int) (cmp_0_0 : Option Addr) (cmp_0_0n : Nat) (cmp_0_0c : Nat) (i : Int) (j : Int) (h : Heap) (K : Value → Heap → Prop) : Prop :=
 Br (decide (i ≤ j))
 (0 ≤ j ∧
 j < (↑datan : Int) ∧
 withAddr data fun (b o : Nat) =>
 ∃ (n : Int),
 Heap.cell h b (o + Int.toNat j) = some (int IntKind.i64 n) ∧
 0 ≤ a ∧
 a < (↑datan : Int) ∧
 withAddr data fun (b o : Nat) =>
 ∃ (n_1 : Int),
 Heap.cell h b (o + Int.toNat a) = some (int IntKind.i64 n_1) ∧
 CallA Try.prog fn_split_by_order [agg #[slice cmp_0_0 cmp_0_0n cmp_0_0c], int IntKind.i64 n, int IntKind.i64 n_1] h fun (v : Value) (h : Heap) =>
 ∃ (n : Int),
 v = int IntKind.i64 n ∧
 Br (!decide (n < 0)) (L_slices_partitionCmpFunc_int_1 data datan datac a cmp_0_0 cmp_0_0n cmp_0_0c i (IntKind.wrap IntKind.i64 (j - 1)) h K)
 (Br (decide (i > j))
 (0 ≤ a ∧
 a < (↑datan : Int) ∧
 withAddr data fun (b o : Nat) =>
 ∃ (n : Int),
 Heap.cell h b (o + Int.toNat a) = some (int IntKind.i64 n) ∧
 0 ≤ j ∧
 j < (↑datan : Int) ∧
 withAddr data fun (b o : Nat) =>
 ∃ (n_2 : Int),
 Heap.cell h b (o + Int.toNat j) = some (int IntKind.i64 n_2) ∧
 0 ≤ j ∧
 j < (↑datan : Int) ∧
 withAddr data fun (b o : Nat) =>
 Heap.canSt h b (o + Int.toNat j) 1 ∧
 0 ≤ a ∧
 a < (↑datan : Int) ∧
 withAddr data fun (b_1 o_1 : Nat) =>
 Heap.canSt (Heap.setN h b (o + Int.toNat j) [int IntKind.i64 n]) b_1 (o_1 + Int.toNat a) 1 ∧
 Ret (Heap.setN (Heap.setN h b (o + Int.toNat j) [int IntKind.i64 n]) b_1 (o_1 + Int.toNat a) [int IntKind.i64 n_2]) K
 (tuple #[int IntKind.i64 j, Value.bool true]))
 (0 ≤ j ∧
 j < (↑datan : Int) ∧
 withAddr data fun (b o : Nat) =>
 ∃ (n : Int),
 Heap.cell h b (o + Int.toNat j) = some (int IntKind.i64 n) ∧
 0 ≤ i ∧
 i < (↑datan : Int) ∧
 withAddr data fun (b o : Nat) =>
 ∃ (n_2 : Int),
 Heap.cell h b (o + Int.toNat i) = some (int IntKind.i64 n_2) ∧
 0 ≤ i ∧
 i < (↑datan : Int) ∧
 withAddr data fun (b o : Nat) =>
 Heap.canSt h b (o + Int.toNat i) 1 ∧
 0 ≤ j ∧
 j < (↑datan : Int) ∧
 withAddr data fun (b_1 o_1 : Nat) =>
 Heap.canSt (Heap.setN h b (o + Int.toNat i) [int IntKind.i64 n]) b_1 (o_1 + Int.toNat j) 1 ∧
 L_slices_partitionCmpFunc_int_2 data datan datac a cmp_0_0 cmp_0_0n cmp_0_0c (IntKind.wrap IntKind.i64 (i + 1)) (IntKind.wrap IntKind.i64 (j - 1))
 (Heap.setN (Heap.setN h b (o + Int.toNat i) [int IntKind.i64 n]) b_1 (o_1 + Int.toNat j) [int IntKind.i64 n_2]) K)))
 (Br (decide (i > j))
 (0 ≤ a ∧
 a < (↑datan : Int) ∧
 withAddr data fun (b o : Nat) =>
 ∃ (n : Int),
 Heap.cell h b (o + Int.toNat a) = some (int IntKind.i64 n) ∧
 0 ≤ j ∧
 j < (↑datan : Int) ∧
 withAddr data fun (b o : Nat) =>
 ∃ (n_1 : Int),
 Heap.cell h b (o + Int.toNat j) = some (int IntKind.i64 n_1) ∧
 0 ≤ j ∧
 j < (↑datan : Int) ∧
 withAddr data fun (b o : Nat) =>
 Heap.canSt h b (o + Int.toNat j) 1 ∧
 0 ≤ a ∧
 a < (↑datan : Int) ∧
 withAddr data fun (b_1 o_1 : Nat) =>
 Heap.canSt (Heap.setN h b (o + Int.toNat j) [int IntKind.i64 n]) b_1 (o_1 + Int.toNat a) 1 ∧
 Ret (Heap.setN (Heap.setN h b (o + Int.toNat j) [int IntKind.i64 n]) b_1 (o_1 + Int.toNat a) [int IntKind.i64 n_1]) K (tuple #[int IntKind.i64 j, Value.bool true]))
 (0 ≤ j ∧
 j < (↑datan : Int) ∧
 withAddr data fun (b o : Nat) =>
 ∃ (n : Int),
 Heap.cell h b (o + Int.toNat j) = some (int IntKind.i64 n) ∧
 0 ≤ i ∧
 i < (↑datan : Int) ∧
 withAddr data fun (b o : Nat) =>
 ∃ (n_1 : Int),
 Heap.cell h b (o + Int.toNat i) = some (int IntKind.i64 n_1) ∧
 0 ≤ i ∧
 i < (↑datan : Int) ∧
 withAddr data fun (b o : Nat) =>
 Heap.canSt h b (o + Int.toNat i) 1 ∧
 0 ≤ j ∧
 j < (↑datan : Int) ∧
 withAddr data fun (b_1 o_1 : Nat) =>
 Heap.canSt (Heap.setN h b (o + Int.toNat i) [int IntKind.i64 n]) b_1 (o_1 + Int.toNat j) 1 ∧
 L_slices_partitionCmpFunc_int_2 data datan datac a cmp_0_0 cmp_0_0n cmp_0_0c (IntKind.wrap IntKind.i64 (i + 1)) (IntKind.wrap IntKind.i64 (j - 1))
 (Heap.setN (Heap.setN h b (o + Int.toNat i) [int IntKind.i64 n]) b_1 (o_1 + Int.toNat j) [int IntKind.i64 n_1]) K))
theorem L_slices_partitionCmpFunc_int_1r (data : Option Addr) (datan : Nat) (datac : Nat) (a : Int) (cmp_0_0 : Option Addr) (cmp_0_0n : Nat) (cmp_0_0c : Nat) (i : Int) (j : Int) (h : Heap) (K : Value → Heap → Prop) (k : L_slices_partitionCmpFunc_int_1T data datan datac a cmp_0_0 cmp_0_0n cmp_0_0c i j h K) : L_slices_partitionCmpFunc_int_1 data datan datac a cmp_0_0 cmp_0_0n cmp_0_0c i j h K :=
 LoopAt.of_ev (cs := []) Try.func144 mixed (fun junk => by kernel_rfl) k
def L_slices_partitionCmpFunc_int_2T (data : Option Addr) (datan : Nat) (datac : Nat) (a : Int) (cmp_0_0 : Option Addr) (cmp_0_0n : Nat) (cmp_0_0c : Nat) (i : Int) (j : Int) (h : Heap) (K : Value → Heap → Prop) : Prop :=
 L_slices_partitionCmpFunc_int_3 data datan datac a cmp_0_0 cmp_0_0n cmp_0_0c i j h K
theorem L_slices_partitionCmpFunc_int_2r (data : Option Addr) (datan : Nat) (datac : Nat) (a : Int) (cmp_0_0 : Option Addr) (cmp_0_0n : Nat) (cmp_0_0c : Nat) (i : Int) (j : Int) (h : Heap) (K : Value → Heap → Prop) (k : L_slices_partitionCmpFunc_int_2T data datan datac a cmp_0_0 cmp_0_0n cmp_0_0c i j h K) : L_slices_partitionCmpFunc_int_2 data datan datac a cmp_0_0 cmp_0_0n cmp_0_0c i j h K :=
 LoopAt.of_ev (cs := []) Try.func144 mixed (fun junk => by kernel_rfl) k
def L_slices_partitionCmpFunc_int_3T (data : Option Addr) (datan : Nat) (datac : Nat) (a : Int) (cmp_0_0 : Option Addr) (cmp_0_0n : Nat) (cmp_0_0c : Nat) (i : Int) (j : Int) (h : Heap) (K : Value → Heap → Prop) : Prop :=
 Br (decide (i ≤ j))
 (0 ≤ i ∧
 i < (↑datan : Int) ∧
 withAddr data fun (b o : Nat) =>
 ∃ (n : Int),
 Heap.cell h b (o + Int.toNat i) = some (int IntKind.i64 n) ∧
 0 ≤ a ∧
 a < (↑datan : Int) ∧
 withAddr data fun (b o : Nat) =>
 ∃ (n_1 : Int),
 Heap.cell h b (o + Int.toNat a) = some (int IntKind.i64 n_1) ∧
 CallA Try.prog fn_split_by_order [agg #[slice cmp_0_0 cmp_0_0n cmp_0_0c], int IntKind.i64 n, int IntKind.i64 n_1] h fun (v : Value) (h : Heap) =>
 ∃ (n : Int),
 v = int IntKind.i64 n ∧
 Br (decide (n < 0)) (L_slices_partitionCmpFunc_int_3 data datan datac a cmp_0_0 cmp_0_0n cmp_0_0c (IntKind.wrap IntKind.i64 (i + 1)) j h K) (L_slices_partitionCmpFunc_int_4 data datan datac a cmp_0_0 cmp_0_0n cmp_0_0c i j h K))
 (L_slices_partitionCmpFunc_int_4 data datan datac a cmp_0_0 cmp_0_0n cmp_0_0c i j h K)
theorem L_slices_partitionCmpFunc_int_3r (data : Option Addr) (datan : Nat) (datac : Nat) (a : Int) (cmp_0_0 : Option Addr) (cmp_0_0n : Nat) (cmp_0_0c : Nat) (i : Int) (j : Int) (h : Heap) (K : Value → Heap → Prop) (k : L_slices_partitionCmpFunc_int_3T data datan datac a cmp_0_0 cmp_0_0n cmp_0_0c i j h K) : L_slices_partitionCmpFunc_int_3 data datan datac a cmp_0_0 cmp_0_0n cmp_0_0c i j h K :=
 LoopAt.of_ev (cs := []) Try.func144 mixed (fun junk => by kernel_rfl) k
def L_slices_partitionCmpFunc_int_4T (data : Option Addr) (datan : Nat) (datac : Nat) (a : Int) (cmp_0_0 : Option Addr) (cmp_0_0n : Nat) (cmp_0_0c : Nat) (i : Int) (j : Int) (h : Heap) (K : Value → Heap → Prop) : Prop :=
 Br (decide (i ≤ j))
 (0 ≤ j ∧
 j < (↑datan : Int) ∧
 withAddr data fun (b o : Nat) =>
 ∃ (n : Int),
 Heap.cell h b (o + Int.toNat j) = some (int IntKind.i64 n) ∧
 0 ≤ a ∧
 a < (↑datan : Int) ∧
 withAddr data fun (b o : Nat) =>
 ∃ (n_1 : Int),
 Heap.cell h b (o + Int.toNat a) = some (int IntKind.i64 n_1) ∧
 CallA Try.prog fn_split_by_order [agg #[slice cmp_0_0 cmp_0_0n cmp_0_0c], int IntKind.i64 n, int IntKind.i64 n_1] h fun (v : Value) (h : Heap) =>
 ∃ (n : Int),
 v = int IntKind.i64 n ∧
 Br (!decide (n < 0)) (L_slices_partitionCmpFunc_int_4 data datan datac a cmp_0_0 cmp_0_0n cmp_0_0c i (IntKind.wrap IntKind.i64 (j - 1)) h K)
 (Br (decide (i > j))
 (0 ≤ a ∧
 a < (↑datan : Int) ∧
 withAddr data fun (b o : Nat) =>
 ∃ (n : Int),
 Heap.cell h b (o + Int.toNat a) = some (int IntKind.i64 n) ∧
 0 ≤ j ∧
 j < (↑datan : Int) ∧
 withAddr data fun (b o : Nat) =>
 ∃ (n_2 : Int),
 Heap.cell h b (o + Int.toNat j) = some (int IntKind.i64 n_2) ∧
 0 ≤ j ∧
 j < (↑datan : Int) ∧
 withAddr data fun (b o : Nat) =>
 Heap.canSt h b (o + Int.toNat j) 1 ∧
 0 ≤ a ∧
 a < (↑datan : Int) ∧
 withAddr data fun (b_1 o_1 : Nat) =>
 Heap.canSt (Heap.setN h b (o + Int.toNat j) [int IntKind.i64 n]) b_1 (o_1 + Int.toNat a) 1 ∧
 Ret (Heap.setN (Heap.setN h b (o + Int.toNat j) [int IntKind.i64 n]) b_1 (o_1 + Int.toNat a) [int IntKind.i64 n_2]) K
 (tuple #[int IntKind.i64 j, Value.bool false]))
 (0 ≤ j ∧
 j < (↑datan : Int) ∧
 withAddr data fun (b o : Nat) =>
 ∃ (n : Int),
 Heap.cell h b (o + Int.toNat j) = some (int IntKind.i64 n) ∧
 0 ≤ i ∧
 i < (↑datan : Int) ∧
 withAddr data fun (b o : Nat) =>
 ∃ (n_2 : Int),
 Heap.cell h b (o + Int.toNat i) = some (int IntKind.i64 n_2) ∧
 0 ≤ i ∧
 i < (↑datan : Int) ∧
 withAddr data fun (b o : Nat) =>
 Heap.canSt h b (o + Int.toNat i) 1 ∧
 0 ≤ j ∧
 j < (↑datan : Int) ∧
 withAddr data fun (b_1 o_1 : Nat) =>
 Heap.canSt (Heap.setN h b (o + Int.toNat i) [int IntKind.i64 n]) b_1 (o_1 + Int.toNat j) 1 ∧
 L_slices_partitionCmpFunc_int_2 data datan datac a cmp_0_0 cmp_0_0n cmp_0_0c (IntKind.wrap IntKind.i64 (i + 1)) (IntKind.wrap IntKind.i64 (j - 1))
 (Heap.setN (Heap.setN h b (o + Int.toNat i) [int IntKind.i64 n]) b_1 (o_1 + Int.toNat j) [int IntKind.i64 n_2]) K)))
 (Br (decide (i > j))
 (0 ≤ a ∧
 a < (↑datan : Int) ∧
 withAddr data fun (b o : Nat) =>
 ∃ (n : Int),
 Heap.cell h b (o + Int.toNat a) = some (int IntKind.i64 n) ∧
 0 ≤ j ∧
 j < (↑datan : Int) ∧
 withAddr data fun (b o : Nat) =>
 ∃ (n_1 : Int),
 Heap.cell h b (o + Int.toNat j) = some (int IntKind.i64 n_1) ∧
 0 ≤ j ∧
 j < (↑datan : Int) ∧
 withAddr data fun (b o : Nat) =>
 Heap.canSt h b (o + Int.toNat j) 1 ∧
 0 ≤ a ∧
 a < (↑datan : Int) ∧
 withAddr data fun (b_1 o_1 : Nat) =>
 Heap.canSt (Heap.setN h b (o + Int.toNat j) [int IntKind.i64 n]) b_1 (o_1 + Int.toNat a) 1 ∧
 Ret (Heap.setN (Heap.setN h b (o + Int.toNat j) [int IntKind.i64 n]) b_1 (o_1 + Int.toNat a) [int IntKind.i64 n_1]) K (tuple #[int IntKind.i64 j, Value.bool false]))
 (0 ≤ j ∧
 j < (↑datan : Int) ∧
 withAddr data fun (b o : Nat) =>
 ∃ (n : Int),
 Heap.cell h b (o + Int.toNat j) = some (int IntKind.i64 n) ∧
 0 ≤ i ∧
 i < (↑datan : Int) ∧
 withAddr data fun (b o : Nat) =>
 ∃ (n_1 : Int),
 Heap.cell h b (o + Int.toNat i) = some (int IntKind.i64 n_1) ∧
 0 ≤ i ∧
 i < (↑datan : Int) ∧
 withAddr data fun (b o : Nat) =>
 Heap.canSt h b (o + Int.toNat i) 1 ∧
 0 ≤ j ∧
 j < (↑datan : Int) ∧
 withAddr data fun (b_1 o_1 : Nat) =>
 Heap.canSt (Heap.setN h b (o + Int.toNat i) [int IntKind.i64 n]) b_1 (o_1 + Int.toNat j) 1 ∧
 L_slices_partitionCmpFunc_int_2 data datan datac a cmp_0_0 cmp_0_0n cmp_0_0c (IntKind.wrap IntKind.i64 (i + 1)) (IntKind.wrap IntKind.i64 (j - 1))
 (Heap.setN (Heap.setN h b (o + Int.toNat i) [int IntKind.i64 n]) b_1 (o_1 + Int.toNat j) [int IntKind.i64 n_1]) K))
theorem L_slices_partitionCmpFunc_int_4r (data : Option Addr) (datan : Nat) (datac : Nat) (a : Int) (cmp_0_0 : Option Addr) (cmp_0_0n : Nat) (cmp_0_0c : Nat) (i : Int) (j : Int) (h : Heap) (K : Value → Heap → Prop) (k : L_slices_partitionCmpFunc_int_4T data datan datac a cmp_0_0 cmp_0_0n cmp_0_0c i j h K) : L_slices_partitionCmpFunc_int_4 data datan datac a cmp_0_0 cmp_0_0n cmp_0_0c i j h K :=
 LoopAt.of_ev (cs := []) Try.func144 mixed (fun junk => by kernel_rfl) k
def F_slices_partitionCmpFunc_intT (data : Option Addr) (datan : Nat) (datac : Nat) (a : Int) (b : Int) (pivot : Int) (cmp_0 : Option Addr) (cmp_0n : Nat) (cmp_0c : Nat) (h : Heap) (K : Value → Heap → Prop) : Prop :=
 0 ≤ pivot ∧
 pivot < (↑datan : Int) ∧
 withAddr data fun (b_1 o : Nat) =>
 ∃ (n : Int),
 Heap.cell h b_1 (o + Int.toNat pivot) = some (int IntKind.i64 n) ∧
 0 ≤ a ∧
 a < (↑datan : Int) ∧
 withAddr data fun (b_2 o : Nat) =>
 ∃ (n_1 : Int),
 Heap.cell h b_2 (o + Int.toNat a) = some (int IntKind.i64 n_1) ∧
 0 ≤ a ∧
 a < (↑datan : Int) ∧
 withAddr data fun (b_3 o : Nat) =>
 Heap.canSt h b_3 (o + Int.toNat a) 1 ∧
 0 ≤ pivot ∧
 pivot < (↑datan : Int) ∧
 withAddr data fun (b_4 o_1 : Nat) =>
 Heap.canSt (Heap.setN h b_3 (o + Int.toNat a) [int IntKind.i64 n]) b_4 (o_1 + Int.toNat pivot) 1 ∧
 L_slices_partitionCmpFunc_int_0 data datan datac a cmp_0 cmp_0n cmp_0c (IntKind.wrap IntKind.i64 (a + 1)) (IntKind.wrap IntKind.i64 (b - 1))
 (Heap.setN (Heap.setN h b_3 (o + Int.toNat a) [int IntKind.i64 n]) b_4 (o_1 + Int.toNat pivot) [int IntKind.i64 n_1]) K
theorem F_slices_partitionCmpFunc_int (data : Option Addr) (datan : Nat) (datac : Nat) (a : Int) (b : Int) (pivot : Int) (cmp_0 : Option Addr) (cmp_0n : Nat) (cmp_0c : Nat) (h : Heap) (K : Value → Heap → Prop) (k : F_slices_partitionCmpFunc_intT data datan datac a b pivot cmp_0 cmp_0n cmp_0c h K) : CallA Try.prog fn_slices_partitionCmpFunc_int [slice data datan datac, int IntKind.i64 a, int IntKind.i64 b, int IntKind.i64 pivot, func (Fn.func fn_split_by_order) #[agg #[slice cmp_0 cmp_0n cmp_0c]] #[]] h K :=
 CallA.of_ev (cs := []) Try.func144 (by kernel_rfl) (fun _ _ => Try.call144 _ _) mixed (by kernel_rfl) (by kernel_rfl) k
def L_slices_partitionEqualCmpFunc_int_0 (data : Option Addr) (datan : Nat) (datac : Nat) (a : Int) (cmp_0_0 : Option Addr) (cmp_0_0n : Nat) (cmp_0_0c : Nat) (i : Int) (j : Int) (h : Heap) (K : Value → Heap → Prop) : Prop :=
 LoopAt Try.prog Try.f143 143 (loopK Try.f143 0) (sp 90 [(0, slice data datan datac), (1, int IntKind.i64 a), (4, func (Fn.func fn_split_by_order) #[agg #[slice cmp_0_0 cmp_0_0n cmp_0_0c]] #[]), (11, int IntKind.i64 i), (12, int IntKind.i64 j)]) h K
def L_slices_partitionEqualCmpFunc_int_1 (data : Option Addr) (datan : Nat) (datac : Nat) (a : Int) (cmp_0_0 : Option Addr) (cmp_0_0n : Nat) (cmp_0_0c : Nat) (i : Int) (j : Int) (h : Heap) (K : Value → Heap → Prop) : Prop :=
 LoopAt Try.prog Try.f143 143 (loopK Try.f143 1) (sp 90 [(0, slice data datan datac), (1, int IntKind.i64 a), (4, func (Fn.func fn_split_by_order) #[agg #[slice cmp_0_0 cmp_0_0n cmp_0_0c]] #[]), (11, int IntKind.i64 i), (12, int IntKind.i64 j)]) h K
def L_slices_partitionEqualCmpFunc_int_2 (data : Option Addr) (datan : Nat) (datac : Nat) (a : Int) (cmp_0_0 : Option Addr) (cmp_0_0n : Nat) (cmp_0_0c : Nat) (i : Int) (j : Int) (h : Heap) (K : Value → Heap → Prop) : Prop :=
 LoopAt Try.prog Try.f143 143 (loopK Try.f143 2) (sp 90 [(0, slice data datan datac), (1, int IntKind.i64 a), (4, func (Fn.func fn_split_by_order) #[agg #[slice cmp_0_0 cmp_0_0n cmp_0_0c]] #[]), (11, int IntKind.i64 i), (12, int IntKind.i64 j)]) h K
def L_slices_partitionEqualCmpFunc_int_0T (data : Option Addr) (datan : Nat) (datac : Nat) (a : Int) (cmp_0_0 : Option Addr) (cmp_0_0n : Nat) (cmp_0_0c : Nat) (i : Int) (j : Int) (h : Heap) (K : Value → Heap → Prop) : Prop :=
 L_slices_partitionEqualCmpFunc_int_1 data datan datac a cmp_0_0 cmp_0_0n cmp_0_0c i j h K
theorem L_slices_partitionEqualCmpFunc_int_0r (data : Option Addr) (datan : Nat) (datac : Nat) (a : Int) (cmp_0_0 : Option Addr) (cmp_0_0n : Nat) (cmp_0_0c : Nat) (i : Int) (j : Int) (h : Heap) (K : Value → Heap → Prop) (k : L_slices_partitionEqualCmpFunc_int_0T data datan datac a cmp_0_0 cmp_0_0n cmp_0_0c i j h K) : L_slices_partitionEqualCmpFunc_int_0 data datan datac a cmp_0_0 cmp_0_0n cmp_0_0c i j h K :=
 LoopAt.of_ev (cs := []) Try.func143 mixed (fun junk => by kernel_rfl) k
def L_slices_partitionEqualCmpFunc_int_1T (data : Option Addr) (datan : Nat) (datac : Nat) (a : Int) (cmp_0_0 : Option Addr) (cmp_0_0n : Nat) (cmp_0_0c : Nat) (i : Int) (j : Int) (h : Heap) (K : Value → Heap → Prop) : Prop :=
 Br (decide (i ≤ j))
 (0 ≤ a ∧
 a < (↑datan : Int) ∧
 withAddr data fun (b o : Nat) =>
 ∃ (n : Int),
 Heap.cell h b (o + Int.toNat a) = some (int IntKind.i64 n) ∧
 0 ≤ i ∧
 i < (↑datan : Int) ∧
 withAddr data fun (b o : Nat) =>
 ∃ (n_1 : Int),
 Heap.cell h b (o + Int.toNat i) = some (int IntKind.i64 n_1) ∧
 CallA Try.prog fn_split_by_order [agg #[slice cmp_0_0 cmp_0_0n cmp_0_0c], int IntKind.i64 n, int IntKind.i64 n_1] h fun (v : Value) (h : Heap) =>
 ∃ (n : Int),
 v = int IntKind.i64 n ∧
 Br (!decide (n < 0)) (L_slices_partitionEqualCmpFunc_int_1 data datan datac a cmp_0_0 cmp_0_0n cmp_0_0c (IntKind.wrap IntKind.i64 (i + 1)) j h K) (L_slices_partitionEqualCmpFunc_int_2 data datan datac a cmp_0_0 cmp_0_0n cmp_0_0c i j h K))
 (L_slices_partitionEqualCmpFunc_int_2 data datan datac a cmp_0_0 cmp_0_0n cmp_0_0c i j h K)
theorem L_slices_partitionEqualCmpFunc_int_1r (data : Option Addr) (datan : Nat) (datac : Nat) (a : Int) (cmp_0_0 : Option Addr) (cmp_0_0n : Nat) (cmp_0_0c : Nat) (i : Int) (j : Int) (h : Heap) (K : Value → Heap → Prop) (k : L_slices_partitionEqualCmpFunc_int_1T data datan datac a cmp_0_0 cmp_0_0n cmp_0_0c i j h K) : L_slices_partitionEqualCmpFunc_int_1 data datan datac a cmp_0_0 cmp_0_0n cmp_0_0c i j h K :=
 LoopAt.of_ev (cs := []) Try.func143 mixed (fun junk => by kernel_rfl) k
def L_slices_partitionEqualCmpFunc_int_2T (data : Option Addr) (datan : Nat) (datac : Nat) (a : Int) (cmp_0_0 : Option Addr) (cmp_0_0n : Nat) (cmp_0_0c : Nat) (i : Int) (j : Int) (h : Heap) (K : Value → Heap → Prop) : Prop :=
 Br (decide (i ≤ j))
 (0 ≤ a ∧
 a < (↑datan : Int) ∧
 withAddr data fun (b o : Nat) =>
 ∃ (n : Int),
 Heap.cell h b (o + Int.toNat a) = some (int IntKind.i64 n) ∧
 0 ≤ j ∧
 j < (↑datan : Int) ∧
 withAddr data fun (b o : Nat) =>
 ∃ (n_1 : Int),
 Heap.cell h b (o + Int.toNat j) = some (int IntKind.i64 n_1) ∧
 CallA Try.prog fn_split_by_order [agg #[slice cmp_0_0 cmp_0_0n cmp_0_0c], int IntKind.i64 n, int IntKind.i64 n_1] h fun (v : Value) (h : Heap) =>
 ∃ (n : Int),
 v = int IntKind.i64 n ∧
 Br (decide (n < 0)) (L_slices_partitionEqualCmpFunc_int_2 data datan datac a cmp_0_0 cmp_0_0n cmp_0_0c i (IntKind.wrap IntKind.i64 (j - 1)) h K)
 (Br (decide (i > j)) (Ret h K (int IntKind.i64 i))
 (0 ≤ j ∧
 j < (↑datan : Int) ∧
 withAddr data fun (b o : Nat) =>
 ∃ (n : Int),
 Heap.cell h b (o + Int.toNat j) = some (int IntKind.i64 n) ∧
 0 ≤ i ∧
 i < (↑datan : Int) ∧
 withAddr data fun (b o : Nat) =>
 ∃ (n_2 : Int),
 Heap.cell h b (o + Int.toNat i) = some (int IntKind.i64 n_2) ∧
 0 ≤ i ∧
 i < (↑datan : Int) ∧
 withAddr data fun (b o : Nat) =>
 Heap.canSt h b (o + Int.toNat i) 1 ∧
 0 ≤ j ∧
 j < (↑datan : Int) ∧
 withAddr data fun (b_1 o_1 : Nat) =>
 Heap.canSt (Heap.setN h b (o + Int.toNat i) [int IntKind.i64 n]) b_1 (o_1 + Int.toNat j) 1 ∧
 L_slices_partitionEqualCmpFunc_int_0 data datan datac a cmp_0_0 cmp_0_0n cmp_0_0c (IntKind.wrap IntKind.i64 (i + 1)) (IntKind.wrap IntKind.i64 (j - 1))
 (Heap.setN (Heap.setN h b (o + Int.toNat i) [int IntKind.i64 n]) b_1 (o_1 + Int.toNat j) [int IntKind.i64 n_2]) K)))
 (Br (decide (i > j)) (Ret h K (int IntKind.i64 i))
 (0 ≤ j ∧
 j < (↑datan : Int) ∧
 withAddr data fun (b o : Nat) =>
 ∃ (n : Int),
 Heap.cell h b (o + Int.toNat j) = some (int IntKind.i64 n) ∧
 0 ≤ i ∧
 i < (↑datan : Int) ∧
 withAddr data fun (b o : Nat) =>
 ∃ (n_1 : Int),
 Heap.cell h b (o + Int.toNat i) = some (int IntKind.i64 n_1) ∧
 0 ≤ i ∧
 i < (↑datan : Int) ∧
 withAddr data fun (b o : Nat) =>
 Heap.canSt h b (o + Int.toNat i) 1 ∧
 0 ≤ j ∧
 j < (↑datan : Int) ∧
 withAddr data fun (b_1 o_1 : Nat) =>
 Heap.canSt (Heap.setN h b (o + Int.toNat i) [int IntKind.i64 n]) b_1 (o_1 + Int.toNat j) 1 ∧
 L_slices_partitionEqualCmpFunc_int_0 data datan datac a cmp_0_0 cmp_0_0n cmp_0_0c (IntKind.wrap IntKind.i64 (i + 1)) (IntKind.wrap IntKind.i64 (j - 1))
 (Heap.setN (Heap.setN h b (o + Int.toNat i) [int IntKind.i64 n]) b_1 (o_1 + Int.toNat j) [int IntKind.i64 n_1]) K))
theorem L_slices_partitionEqualCmpFunc_int_2r (data : Option Addr) (datan : Nat) (datac : Nat) (a : Int) (cmp_0_0 : Option Addr) (cmp_0_0n : Nat) (cmp_0_0c : Nat) (i : Int) (j : Int) (h : Heap) (K : Value → Heap → Prop) (k : L_slices_partitionEqualCmpFunc_int_2T data datan datac a cmp_0_0 cmp_0_0n cmp_0_0c i j h K) : L_slices_partitionEqualCmpFunc_int_2 data datan datac a cmp_0_0 cmp_0_0n cmp_0_0c i j h K :=
 LoopAt.of_ev (cs := []) Try.func143 mixed (fun junk => by kernel_rfl) k
def F_slices_partitionEqualCmpFunc_intT (data : Option Addr) (datan : Nat) (datac : Nat) (a : Int) (b : Int) (pivot : Int) (cmp_0 : Option Addr) (cmp_0n : Nat) (cmp_0c : Nat) (h : Heap) (K : Value → Heap → Prop) : Prop :=
 0 ≤ pivot ∧
 pivot < (↑datan : Int) ∧
 withAddr data fun (b_1 o : Nat) =>
 ∃ (n : Int),
 Heap.cell h b_1 (o + Int.toNat pivot) = some (int IntKind.i64 n) ∧
 0 ≤ a ∧
 a < (↑datan : Int) ∧
 withAddr data fun (b_2 o : Nat) =>
 ∃ (n_1 : Int),
 Heap.cell h b_2 (o + Int.toNat a) = some (int IntKind.i64 n_1) ∧
 0 ≤ a ∧
 a < (↑datan : Int) ∧
 withAddr data fun (b_3 o : Nat) =>
 Heap.canSt h b_3 (o + Int.toNat a) 1 ∧
 0 ≤ pivot ∧
 pivot < (↑datan : Int) ∧
 withAddr data fun (b_4 o_1 : Nat) =>
 Heap.canSt (Heap.setN h b_3 (o + Int.toNat a) [int IntKind.i64 n]) b_4 (o_1 + Int.toNat pivot) 1 ∧
 L_slices_partitionEqualCmpFunc_int_0 data datan datac a cmp_0 cmp_0n cmp_0c (IntKind.wrap IntKind.i64 (a + 1)) (IntKind.wrap IntKind.i64 (b - 1))
 (Heap.setN (Heap.setN h b_3 (o + Int.toNat a) [int IntKind.i64 n]) b_4 (o_1 + Int.toNat pivot) [int IntKind.i64 n_1]) K
theorem F_slices_partitionEqualCmpFunc_int (data : Option Addr) (datan : Nat) (datac : Nat) (a : Int) (b : Int) (pivot : Int) (cmp_0 : Option Addr) (cmp_0n : Nat) (cmp_0c : Nat) (h : Heap) (K : Value → Heap → Prop) (k : F_slices_partitionEqualCmpFunc_intT data datan datac a b pivot cmp_0 cmp_0n cmp_0c h K) : CallA Try.prog fn_slices_partitionEqualCmpFunc_int [slice data datan datac, int IntKind.i64 a, int IntKind.i64 b, int IntKind.i64 pivot, func (Fn.func fn_split_by_order) #[agg #[slice cmp_0 cmp_0n cmp_0c]] #[]] h K :=
 CallA.of_ev (cs := []) Try.func143 (by kernel_rfl) (fun _ _ => Try.call143 _ _) mixed (by kernel_rfl) (by kernel_rfl) k
def L_slices_partialInsertionSortCmpFunc_int_0 (data : Option Addr) (datan : Nat) (datac : Nat) (a : Int) (b : Int) (cmp_0_0 : Option Addr) (cmp_0_0n : Nat) (cmp_0_0c : Nat) (i : Int) (j : Int) (h : Heap) (K : Value → Heap → Prop) : Prop :=
 LoopAt Try.prog Try.f142 142 (loopK Try.f142 0) (sp 141 [(0, slice data datan datac), (1, int IntKind.i64 a), (2, int IntKind.i64 b), (3, func (Fn.func fn_split_by_order) #[agg #[slice cmp_0_0 cmp_0_0n cmp_0_0c]] #[]), (9, int IntKind.i64 i), (10, int IntKind.i64 j)]) h K
def L_slices_partialInsertionSortCmpFunc_int_1 (data : Option Addr) (datan : Nat) (datac : Nat) (a : Int) (b : Int) (cmp_0_0 : Option Addr) (cmp_0_0n : Nat) (cmp_0_0c : Nat) (i : Int) (j : Int) (h : Heap) (K : Value → Heap → Prop) : Prop :=
 LoopAt Try.prog Try.f142 142 (loopK Try.f142 1) (sp 141 [(0, slice data datan datac), (1, int IntKind.i64 a), (2, int IntKind.i64 b), (3, func (Fn.func fn_split_by_order) #[agg #[slice cmp_0_0 cmp_0_0n cmp_0_0c]] #[]), (9, int IntKind.i64 i), (10, int IntKind.i64 j)]) h K
def L_slices_partialInsertionSortCmpFunc_int_2 (data : Option Addr) (datan : Nat) (datac : Nat) (a : Int) (b : Int) (cmp_0_0 : Option Addr) (cmp_0_0n : Nat) (cmp_0_0c : Nat) (i : Int) (j : Int) (j1 : Int) (h : Heap) (K : Value → Heap → Prop) : Prop :=
 LoopAt Try.prog Try.f142 142 (loopK Try.f142 2) (sp 141 [(0, slice data datan datac), (1, int IntKind.i64 a), (2, int IntKind.i64 b), (3, func (Fn.func fn_split_by_order) #[agg #[slice cmp_0_0 cmp_0_0n cmp_0_0c]] #[]), (9, int IntKind.i64 i), (10, int IntKind.i64 j),
 (11, int IntKind.i64 j1)]) h K
def L_slices_partialInsertionSortCmpFunc_int_3 (data : Option Addr) (datan : Nat) (datac : Nat) (a : Int) (b : Int) (cmp_0_0 : Option Addr) (cmp_0_0n : Nat) (cmp_0_0c : Nat) (i : Int) (j : Int) (j1 : Int) (h : Heap) (K : Value → Heap → Prop) : Prop :=
 LoopAt Try.prog Try.f142 142 (loopK Try.f142 3) (sp 141 [(0, slice data datan datac), (1, int IntKind.i64 a), (2, int IntKind.i64 b), (3, func (Fn.func fn_split_by_order) #[agg #[slice cmp_0_0 cmp_0_0n cmp_0_0c]] #[]), (9, int IntKind.i64 i), (10, int IntKind.i64 j),
 (12, int IntKind.i64 j1)]) h K
def L_slices_partialInsertionSortCmpFunc_int_0T (data : Option Addr) (datan : Nat) (datac : Nat) (a : Int) (b : Int) (cmp_0_0 : Option Addr) (cmp_0_0n : Nat) (cmp_0_0c : Nat) (i : Int) (j : Int) (h : Heap) (K : Value → Heap → Prop) : Prop :=
 Br (decide (j < 5)) (L_slices_partialInsertionSortCmpFunc_int_1 data datan datac a b cmp_0_0 cmp_0_0n cmp_0_0c i j h K) (Ret h K (Value.bool false))
theorem L_slices_partialInsertionSortCmpFunc_int_0r (data : Option Addr) (datan : Nat) (datac : Nat) (a : Int) (b : Int) (cmp_0_0 : Option Addr) (cmp_0_0n : Nat) (cmp_0_0c : Nat) (i : Int) (j : Int) (h : Heap) (K : Value → Heap → Prop) (k : L_slices_partialInsertionSortCmpFunc_int_0T data datan datac a b cmp_0_0 cmp_0_0n cmp_0_0c i j h K) : L_slices_partialInsertionSortCmpFunc_int_0 data datan datac a b cmp_0_0 cmp_0_0n cmp_0_0c i j h K :=
 LoopAt.of_ev (cs := []) Try.func142 mixed (fun junk => by kernel_rfl) k
def L_slices_partialInsertionSortCmpFunc_int_1T (data : Option Addr) (datan : Nat) (datac : Nat) (a : Int) (b : Int) (cmp_0_0 : Option Addr) (cmp_0_0n : Nat) (cmp_0_0c : Nat) (i : Int) (j : Int) (h : Heap) (K : Value → Heap → Prop) : Prop :=
 Br (decide (i < b))
 (0 ≤ i ∧
 i < (↑datan : Int) ∧
 withAddr data fun (b_1 o : Nat) =>
 ∃ (n : Int),
 Heap.cell h b_1 (o + Int.toNat i) = some (int IntKind.i64 n) ∧
 0 ≤ IntKind.wrap IntKind.i64 (i - 1) ∧
 IntKind.wrap IntKind.i64 (i - 1) < (↑datan : Int) ∧
 withAddr data fun (b_2 o : Nat) =>
 ∃ (n_1 : Int),
 Heap.cell h b_2 (o + Int.toNat (IntKind.wrap IntKind.i64 (i - 1))) = some (int IntKind.i64 n_1) ∧
 CallA Try.prog fn_split_by_order [agg #[slice cmp_0_0 cmp_0_0n cmp_0_0c], int IntKind.i64 n, int IntKind.i64 n_1] h fun (v : Value) (h : Heap) =>
 ∃ (n : Int),
 v = int IntKind.i64 n ∧
 Br (!decide (n < 0)) (L_slices_partialInsertionSortCmpFunc_int_1 data datan datac a b cmp_0_0 cmp_0_0n cmp_0_0c (IntKind.wrap IntKind.i64 (i + 1)) j h K)
 (Br (i == b) (Ret h K (Value.bool true))
 (Br (decide (IntKind.wrap IntKind.i64 (b - a) < 50)) (Ret h K (Value.bool false))
 (0 ≤ IntKind.wrap IntKind.i64 (i - 1) ∧
 IntKind.wrap IntKind.i64 (i - 1) < (↑datan : Int) ∧
 withAddr data fun (b_3 o : Nat) =>
 ∃ (n : Int),
 Heap.cell h b_3 (o + Int.toNat (IntKind.wrap IntKind.i64 (i - 1))) = some (int IntKind.i64 n) ∧
 0 ≤ i ∧
 i < (↑datan : Int) ∧
 withAddr data fun (b_4 o : Nat) =>
 ∃ (n_2 : Int),
 Heap.cell h b_4 (o + Int.toNat i) = some (int IntKind.i64 n_2) ∧
 0 ≤ i ∧
 i < (↑datan : Int) ∧
 withAddr data fun (b_5 o : Nat) =>
 Heap.canSt h b_5 (o + Int.toNat i) 1 ∧
 0 ≤ IntKind.wrap IntKind.i64 (i - 1) ∧
 IntKind.wrap IntKind.i64 (i - 1) < (↑datan : Int) ∧
 withAddr data fun (b_6 o_1 : Nat) =>
 Heap.canSt (Heap.setN h b_5 (o + Int.toNat i) [int IntKind.i64 n]) b_6 (o_1 + Int.toNat (IntKind.wrap IntKind.i64 (i - 1))) 1 ∧
 Br (decide (IntKind.wrap IntKind.i64 (i - a) ≥ 2))
 (L_slices_partialInsertionSortCmpFunc_int_2 data datan datac a b cmp_0_0 cmp_0_0n cmp_0_0c i j (IntKind.wrap IntKind.i64 (i - 1))
 (Heap.setN (Heap.setN h b_5 (o + Int.toNat i) [int IntKind.i64 n]) b_6 (o_1 + Int.toNat (IntKind.wrap IntKind.i64 (i - 1))) [int IntKind.i64 n_2])
 K)
 (Br (decide (IntKind.wrap IntKind.i64 (b - i) ≥ 2))
 (L_slices_partialInsertionSortCmpFunc_int_3 data datan datac a b cmp_0_0 cmp_0_0n cmp_0_0c i j (IntKind.wrap IntKind.i64 (i + 1))
 (Heap.setN (Heap.setN h b_5 (o + Int.toNat i) [int IntKind.i64 n]) b_6 (o_1 + Int.toNat (IntKind.wrap IntKind.i64 (i - 1)))
 [int IntKind.i64 n_2])
 K)
 (L_slices_partialInsertionSortCmpFunc_int_0 data datan datac a b cmp_0_0 cmp_0_0n cmp_0_0c i (IntKind.wrap IntKind.i64 (j + 1))
 (Heap.setN (Heap.setN h b_5 (o + Int.toNat i) [int IntKind.i64 n]) b_6 (o_1 + Int.toNat (IntKind.wrap IntKind.i64 (i - 1)))
 [int IntKind.i64 n_2])
 K))))))
 (Br (i == b) (Ret h K (Value.bool true))
 (Br (decide (IntKind.wrap IntKind.i64 (b - a) < 50)) (Ret h K (Value.bool false))
 (0 ≤ IntKind.wrap IntKind.i64 (i - 1) ∧
 IntKind.wrap IntKind.i64 (i - 1) < (↑datan : Int) ∧
 withAddr data fun (b_1 o : Nat) =>
 ∃ (n : Int),
 Heap.cell h b_1 (o + Int.toNat (IntKind.wrap IntKind.i64 (i - 1))) = some (int IntKind.i64 n) ∧
 0 ≤ i ∧
 i < (↑datan : Int) ∧
 withAddr data fun (b_2 o : Nat) =>
 ∃ (n_1 : Int),
 Heap.cell h b_2 (o + Int.toNat i) = some (int IntKind.i64 n_1) ∧
 0 ≤ i ∧
 i < (↑datan : Int) ∧
 withAddr data fun (b_3 o : Nat) =>
 Heap.canSt h b_3 (o + Int.toNat i) 1 ∧
 0 ≤ IntKind.wrap IntKind.i64 (i - 1) ∧
 IntKind.wrap IntKind.i64 (i - 1) < (↑datan : Int) ∧
 withAddr data fun (b_4 o_1 : Nat) =>
 Heap.canSt (Heap.setN h b_3 (o + Int.toNat i) [int IntKind.i64 n]) b_4 (o_1 + Int.toNat (IntKind.wrap IntKind.i64 (i - 1))) 1 ∧
 Br (decide (IntKind.wrap IntKind.i64 (i - a) ≥ 2))
 (L_slices_partialInsertionSortCmpFunc_int_2 data datan datac a b cmp_0_0 cmp_0_0n cmp_0_0c i j (IntKind.wrap IntKind.i64 (i - 1))
 (Heap.setN (Heap.setN h b_3 (o + Int.toNat i) [int IntKind.i64 n]) b_4 (o_1 + Int.toNat (IntKind.wrap IntKind.i64 (i - 1))) [int IntKind.i64 n_1]) K)
 (Br (decide (IntKind.wrap IntKind.i64 (b - i) ≥ 2))
 (L_slices_partialInsertionSortCmpFunc_int_3 data datan datac a b cmp_0_0 cmp_0_0n cmp_0_0c i j (IntKind.wrap IntKind.i64 (i + 1))
 (Heap.setN (Heap.setN h b_3 (o + Int.toNat i) [int IntKind.i64 n]) b_4 (o_1 + Int.toNat (IntKind.wrap IntKind.i64 (i - 1))) [int IntKind.i64 n_1]) K)
 (L_slices_partialInsertionSortCmpFunc_int_0 data datan datac a b cmp_0_0 cmp_0_0n cmp_0_0c i (IntKind.wrap IntKind.i64 (j + 1))
 (Heap.setN (Heap.setN h b_3 (o + Int.toNat i) [int IntKind.i64 n]) b_4 (o_1 + Int.toNat (IntKind.wrap IntKind.i64 (i - 1))) [int IntKind.i64 n_1]) K)))))
theorem L_slices_partialInsertionSortCmpFunc_int_1r (data : Option Addr) (datan : Nat) (datac : Nat) (a : Int) (b : Int) (cmp_0_0 : Option Addr) (cmp_0_0n : Nat) (cmp_0_0c : Nat) (i : Int) (j : Int) (h : Heap) (K : Value → Heap → Prop) (k : L_slices_partialInsertionSortCmpFunc_int_1T data datan datac a b cmp_0_0 cmp_0_0n cmp_0_0c i j h K) : L_slices_partialInsertionSortCmpFunc_int_1 data datan datac a b cmp_0_0 cmp_0_0n cmp_0_0c i j h K :=
 LoopAt.of_ev (cs := []) Try.func142 mixed (fun junk => by kernel_rfl) k
def L_slices_partialInsertionSortCmpFunc_int_2T (data : Option Addr) (datan : Nat) (datac : Nat) (a : Int) (b : Int) (cmp_0_0 : Option Addr) (cmp_0_0n : Nat) (cmp_0_0c : Nat) (i : Int) (j : Int) (j1 : Int) (h : Heap) (K : Value → Heap → Prop) : Prop :=
 Br (decide (j1 ≥ 1))
 (0 ≤ j1 ∧
 j1 < (↑datan : Int) ∧
 withAddr data fun (b_1 o : Nat) =>
 ∃ (n : Int),
 Heap.cell h b_1 (o + Int.toNat j1) = some (int IntKind.i64 n) ∧
 0 ≤ IntKind.wrap IntKind.i64 (j1 - 1) ∧
 IntKind.wrap IntKind.i64 (j1 - 1) < (↑datan : Int) ∧
 withAddr data fun (b_2 o : Nat) =>
 ∃ (n_1 : Int),
 Heap.cell h b_2 (o + Int.toNat (IntKind.wrap IntKind.i64 (j1 - 1))) = some (int IntKind.i64 n_1) ∧
 CallA Try.prog fn_split_by_order [agg #[slice cmp_0_0 cmp_0_0n cmp_0_0c], int IntKind.i64 n, int IntKind.i64 n_1] h fun (v : Value) (h : Heap) =>
 ∃ (n : Int),
 v = int IntKind.i64 n ∧
 Br (!decide (n < 0))
 (Br (decide (IntKind.wrap IntKind.i64 (b - i) ≥ 2)) (L_slices_partialInsertionSortCmpFunc_int_3 data datan datac a b cmp_0_0 cmp_0_0n cmp_0_0c i j (IntKind.wrap IntKind.i64 (i + 1)) h K)
 (L_slices_partialInsertionSortCmpFunc_int_0 data datan datac a b cmp_0_0 cmp_0_0n cmp_0_0c i (IntKind.wrap IntKind.i64 (j + 1)) h K))
 (0 ≤ IntKind.wrap IntKind.i64 (j1 - 1) ∧
 IntKind.wrap IntKind.i64 (j1 - 1) < (↑datan : Int) ∧
 withAddr data fun (b_3 o : Nat) =>
 ∃ (n : Int),
 Heap.cell h b_3 (o + Int.toNat (IntKind.wrap IntKind.i64 (j1 - 1))) = some (int IntKind.i64 n) ∧
 0 ≤ j1 ∧
 j1 < (↑datan : Int) ∧
 withAddr data fun (b_4 o : Nat) =>
 ∃ (n_2 : Int),
 Heap.cell h b_4 (o + Int.toNat j1) = some (int IntKind.i64 n_2) ∧
 0 ≤ j1 ∧
 j1 < (↑datan : Int) ∧
 withAddr data fun (b_5 o : Nat) =>
 Heap.canSt h b_5 (o + Int.toNat j1) 1 ∧
 0 ≤ IntKind.wrap IntKind.i64 (j1 - 1) ∧
 IntKind.wrap IntKind.i64 (j1 - 1) < (↑datan : Int) ∧
 withAddr data fun (b_6 o_1 : Nat) =>
 Heap.canSt (Heap.setN h b_5 (o + Int.toNat j1) [int IntKind.i64 n]) b_6 (o_1 + Int.toNat (IntKind.wrap IntKind.i64 (j1 - 1))) 1 ∧
 L_slices_partialInsertionSortCmpFunc_int_2 data datan datac a b cmp_0_0 cmp_0_0n cmp_0_0c i j (IntKind.wrap IntKind.i64 (j1 - 1))
 (Heap.setN (Heap.setN h b_5 (o + Int.toNat j1) [int IntKind.i64 n]) b_6 (o_1 + Int.toNat (IntKind.wrap IntKind.i64 (j1 - 1))) [int IntKind.i64 n_2]) K))
 (Br (decide (IntKind.wrap IntKind.i64 (b - i) ≥ 2)) (L_slices_partialInsertionSortCmpFunc_int_3 data datan datac a b cmp_0_0 cmp_0_0n cmp_0_0c i j (IntKind.wrap IntKind.i64 (i + 1)) h K)
 (L_slices_partialInsertionSortCmpFunc_int_0 data datan datac a b cmp_0_0 cmp_0_0n cmp_0_0c i (IntKind.wrap IntKind.i64 (j + 1)) h K))
theorem L_slices_partialInsertionSortCmpFunc_int_2r (data : Option Addr) (datan : Nat) (datac : Nat) (a : Int) (b : Int) (cmp_0_0 : Option Addr) (cmp_0_0n : Nat) (cmp_0_0c : Nat) (i : Int) (j : Int) (j1 : Int) (h : Heap) (K : Value → Heap → Prop) (k : L_slices_partialInsertionSortCmpFunc_int_2T data datan datac a b cmp_0_0 cmp_0_0n cmp_0_0c i j j1 h K) : L_slices_partialInsertionSortCmpFunc_int_2 data datan datac a b cmp_0_0 cmp_0_0n cmp_0_0c i j j1 h K :=
 LoopAt.of_ev (cs := []) Try.func142 mixed (fun junk => by kernel_rfl) k
def L_slices_partialInsertionSortCmpFunc_int_3T (data : Option Addr) (datan : Nat) (datac : Nat) (a : Int) (b : Int) (cmp_0_0 : Option Addr) (cmp_0_0n : Nat) (cmp_0_0c : Nat) (i : Int) (j : Int) (j1 : Int) (h : Heap) (K : Value → Heap → Prop) : Prop :=
 Br (decide (j1 < b))
 (0 ≤ j1 ∧
 j1 < (↑datan : Int) ∧
 withAddr data fun (b_1 o : Nat) =>
 ∃ (n : Int),
 Heap.cell h b_1 (o + Int.toNat j1) = some (int IntKind.i64 n) ∧
 0 ≤ IntKind.wrap IntKind.i64 (j1 - 1) ∧
 IntKind.wrap IntKind.i64 (j1 - 1) < (↑datan : Int) ∧
 withAddr data fun (b_2 o : Nat) =>
 ∃ (n_1 : Int),
 Heap.cell h b_2 (o + Int.toNat (IntKind.wrap IntKind.i64 (j1 - 1))) = some (int IntKind.i64 n_1) ∧
 CallA Try.prog fn_split_by_order [agg #[slice cmp_0_0 cmp_0_0n cmp_0_0c], int IntKind.i64 n, int IntKind.i64 n_1] h fun (v : Value) (h : Heap) =>
 ∃ (n : Int),
 v = int IntKind.i64 n ∧
 Br (!decide (n < 0)) (L_slices_partialInsertionSortCmpFunc_int_0 data datan datac a b cmp_0_0 cmp_0_0n cmp_0_0c i (IntKind.wrap IntKind.i64 (j + 1)) h K)
 (0 ≤ IntKind.wrap IntKind.i64 (j1 - 1) ∧
 IntKind.wrap IntKind.i64 (j1 - 1) < (↑datan : Int) ∧
 withAddr data fun (b_3 o : Nat) =>
 ∃ (n : Int),
 Heap.cell h b_3 (o + Int.toNat (IntKind.wrap IntKind.i64 (j1 - 1))) = some (int IntKind.i64 n) ∧
 0 ≤ j1 ∧
 j1 < (↑datan : Int) ∧
 withAddr data fun (b_4 o : Nat) =>
 ∃ (n_2 : Int),
 Heap.cell h b_4 (o + Int.toNat j1) = some (int IntKind.i64 n_2) ∧
 0 ≤ j1 ∧
 j1 < (↑datan : Int) ∧
 withAddr data fun (b_5 o : Nat) =>
 Heap.canSt h b_5 (o + Int.toNat j1) 1 ∧
 0 ≤ IntKind.wrap IntKind.i64 (j1 - 1) ∧
 IntKind.wrap IntKind.i64 (j1 - 1) < (↑datan : Int) ∧
 withAddr data fun (b_6 o_1 : Nat) =>
 Heap.canSt (Heap.setN h b_5 (o + Int.toNat j1) [int IntKind.i64 n]) b_6 (o_1 + Int.toNat (IntKind.wrap IntKind.i64 (j1 - 1))) 1 ∧
 L_slices_partialInsertionSortCmpFunc_int_3 data datan datac a b cmp_0_0 cmp_0_0n cmp_0_0c i j (IntKind.wrap IntKind.i64 (j1 + 1))
 (Heap.setN (Heap.setN h b_5 (o + Int.toNat j1) [int IntKind.i64 n]) b_6 (o_1 + Int.toNat (IntKind.wrap IntKind.i64 (j1 - 1))) [int IntKind.i64 n_2]) K))
 (L_slices_partialInsertionSortCmpFunc_int_0 data datan datac a b cmp_0_0 cmp_0_0n cmp_0_0c i (IntKind.wrap IntKind.i64 (j + 1)) h K)
theorem L_slices_partialInsertionSortCmpFunc_int_3r (data : Option Addr) (datan : Nat) (datac : Nat) (a : Int) (b : Int) (cmp_0_0 : Option Addr) (cmp_0_0n : Nat) (cmp_0_0c : Nat) (i : Int) (j : Int) (j1 : Int) (h : Heap) (K : Value → Heap → Prop) (k : L_slices_partialInsertionSortCmpFunc_int_3T data datan datac a b cmp_0_0 cmp_0_0n cmp_0_0c i j j1 h K) : L_slices_partialInsertionSortCmpFunc_int_3 data datan datac a b cmp_0_0 cmp_0_0n cmp_0_0c i j j1 h K :=
 LoopAt.of_ev (cs := []) Try.func142 mixed (fun junk => by kernel_rfl) k
def F_slices_partialInsertionSortCmpFunc_intT (data : Option Addr) (datan : Nat) (datac : Nat) (a : Int) (b : Int) (cmp_0 : Option Addr) (cmp_0n : Nat) (cmp_0c : Nat) (h : Heap) (K : Value → Heap → Prop) : Prop :=
 L_slices_partialInsertionSortCmpFunc_int_0 data datan datac a b cmp_0 cmp_0n cmp_0c (IntKind.wrap IntKind.i64 (a + 1)) 0 h K
theorem F_slices_partialInsertionSortCmpFunc_int (data : Option Addr) (datan : Nat) (datac : Nat) (a : Int) (b : Int) (cmp_0 : Option Addr) (cmp_0n : Nat) (cmp_0c : Nat) (h : Heap) (K : Value → Heap → Prop) (k : F_slices_partialInsertionSortCmpFunc_intT data datan datac a b cmp_0 cmp_0n cmp_0c h K) : CallA Try.prog fn_slices_partialInsertionSortCmpFunc_int [slice data datan datac, int IntKind.i64 a, int IntKind.i64 b, func (Fn.func fn_split_by_order) #[agg #[slice cmp_0 cmp_0n cmp_0c]] #[]] h K :=
 CallA.of_ev (cs := []) Try.func142 (by kernel_rfl) (fun _ _ => Try.call142 _ _) mixed (by kernel_rfl) (by kernel_rfl) k
end Go.Proofs.Ytghdadniddoboaa
