import Derived.Test.YtghdadniddoboaaM03
namespace Go.Proofs.Ytghdadniddoboaa
open Go Go.Sy Go.Value
set_option linter.unusedVariables false
set_option maxRecDepth 100000
def L_slices_partitionCmpFunc_int_0 (data : Option Addr) (datan : Nat) (datac : Nat) (a : Int) (cmp_0_0 : Option Addr) (cmp_0_0n : Nat) (cmp_0_0c : Nat) (i : Int) (j : Int) (h : Heap) (K : Value → Heap → Prop) : Prop :=
 LoopAt Try.prog Try.f144 144 (loopK Try.f144 0) (sp 178 [(0, slice data datan datac), (1, int IntKind.i64 a), (4, func (Fn.func fn_split_by_order) #[agg #[slice cmp_0_0 cmp_0_0n cmp_0_0c]] #[]), (12, int IntKind.i64 i), (13, int IntKind.i64 j)]) h K
def L_slices_partitionCmpFunc_int_1 (data : Option Addr) (datan : Nat) (datac : Nat) (a : Int) (cmp_0_0 : Option Addr) (cmp_0_0n : Nat) (cmp_0_0c : Nat) (i : Int) (j : Int) (h : Heap) (K : Value → Heap → Prop) : Prop :=
 LoopAt Try.prog Try.f144 144 (loopK Try.f144 1) (sp 178 [(0, slice data datan datac), (1, int IntKind.i64 a), (4, func (Fn.func fn_split_by_order) #[agg #[slice cmp_0_0 cmp_0_0n cmp_0_0c]] #[]), (12, int IntKind.i64 i), (13, int IntKind.i64 j)]) h K
def L_slices_partitionCmpFunc_int_2 (data : Option Addr) (datan : Nat) (datac : Nat) (a : Int) (cmp_0_0 : Option Addr) (cmp_0_0n : Nat) (cmp_0_0c : Nat) (i : Int) (j : Int) (h : Heap) (K : Value → Heap → Prop) : Prop :=
 LoopAt Try.prog Try.f144 144 (loopK Try.f144 2) (sp 178 [(0, slice data datan datac), (1, int IntKind.i64 a), (4, func (Fn.func fn_split_by_order) #[agg #[slice cmp_0_0 cmp_0_0n cmp_0_0c]] #[]), (12, int IntKind.i64 i), (13, int IntKind.i64 j)]) h K
def L_slices_partitionCmpFunc_int_3 (data : Option Addr) (datan : Nat) (datac : Nat) (a : Int) (cmp_0_0 : Option Addr) (cmp_0_0n : Nat) (cmp_0_0c : Nat) (i : Int) (j : Int) (h : Heap) (K : Value → Heap → Prop) : Prop :=
 LoopAt Try.prog Try.f144 144 (loopK Try.f144 3) (sp 178 [(0, slice data datan datac), (1, int IntKind.i64 a), (4, func (Fn.func fn_split_by_order) #[agg #[slice cmp_0_0 cmp_0_0n cmp_0_0c]] #[]), (12, int IntKind.i64 i), (13, int IntKind.i64 j)]) h K
def L_slices_partitionCmpFunc_int_4 (data : Option Addr) (datan : Nat) (datac : Nat) (a : Int) (cmp_0_0 : Option Addr) (cmp_0_0n : Nat) (cmp_0_0c : Nat) (i : Int) (j : Int) (h : Heap) (K : Value → Heap → Prop) : Prop :=
 LoopAt Try.prog Try.f144 144 (loopK Try.f144 4) (sp 178 [(0, slice data datan datac), (1, int IntKind.i64 a), (4, func (Fn.func fn_split_by_order) #[agg #[slice cmp_0_0 cmp_0_0n cmp_0_0c]] #[]), (12, int IntKind.i64 i), (13, int IntKind.i64 j)]) h K
def L_slices_partitionCmpFunc_int_0T (data : Option Addr) (datan : Nat) (datac : Nat) (a : Int) (cmp_0_0 : Option Addr) (cmp_0_0n : Nat) (cmp_0_0c : Nat) (i : Int) (j : Int) (h : Heap) (K : Value → Heap → Prop) : Prop :=
 Br (decide (i ≤ j))
 (0 ≤ i ∧
 i < (↑datan : Int) ∧
 withAddr data fun (b o : Nat) =>
 ∃ (n : Int),
 Heap.cell h b (o + Int.toNat i) = some (int IntKind.i64 n) ∧
 0 ≤ a ∧
 a < (↑datan : Int) ∧
 withAddr data fun (b o : Nat) =>
 ∃ (n_1 : Int),
 Heap.cell h b (o + Int.toNat a) = some (int IntKind.i64 n_1) ∧
 CallA Try.prog fn_split_by_order [agg #[slice cmp_0_0 cmp_0_0n cmp_0_0c], int IntKind.i64 n, int IntKind.i64 n_1] h fun (v : Value) (h : Heap) =>
 ∃ (n : Int),
 v = int IntKind.i64 n ∧
 Br (decide (n < 0)) (L_slices_partitionCmpFunc_int_0 data datan datac a cmp_0_0 cmp_0_0n cmp_0_0c (IntKind.wrap IntKind.i64 (i + 1)) j h K) (L_slices_partitionCmpFunc_int_1 data datan datac a cmp_0_0 cmp_0_0n cmp_0_0c i j h K))
 (L_slices_partitionCmpFunc_int_1 data datan datac a cmp_0_0 cmp_0_0n cmp_0_0c i j h K)
theorem L_slices_partitionCmpFunc_int_0r (data : Option Addr) (datan : Nat) (datac : Nat) (a : Int) (cmp_0_0 : Option Addr) (cmp_0_0n : Nat) (cmp_0_0c : Nat) (i : Int) (j : Int) (h : Heap) (K : Value → Heap → Prop) (k : L_slices_partitionCmpFunc_int_0T data datan datac a cmp_0_0 cmp_0_0n cmp_0_0c i j h K) : L_slices_partitionCmpFunc_int_0 data datan datac a cmp_0_0 cmp_0_0n cmp_0_0c i j h K :=
 LoopAt.of_ev (cs := []) Try.func144 mixed (fun junk => by kernel_rfl) k
def L_slices_partitionCmpFunc_int_1T (data : Option Addr) (datan : Nat) (datac : Nat) (a : Int) (cmp_0_0 : Option Addr) (cmp_0_0n : Nat) (cmp_0_0c : Nat) (i : Int) (j : Int) (h : Heap) (K : Value → Heap → Prop) : Prop :=
 Br (decide (i ≤ j))
 (0 ≤ j ∧
 j < (↑datan : Int) ∧
 withAddr data fun (b o : Nat) =>
 ∃ (n : Int),
 Heap.cell h b (o + Int.toNat j) = some (int IntKind.i64 n) ∧
 0 ≤ a ∧
 a < (↑datan : Int) ∧
 withAddr data fun (b o : Nat) =>
 ∃ (n_1 : Int),
 Heap.cell h b (o + Int.toNat a) = some (int IntKind.i64 n_1) ∧
 CallA Try.prog fn_split_by_order [agg #[slice cmp_0_0 cmp_0_0n cmp_0_0c], int IntKind.i64 n, int IntKind.i64 n_1] h fun (v : Value) (h : Heap) =>
 ∃ (n : Int),
 v = int IntKind.i64 n ∧
 Br (!decide (n < 0)) (L_slices_partitionCmpFunc_int_1 data datan datac a cmp_0_0 cmp_0_0n cmp_0_0c i (IntKind.wrap IntKind.i64 (j - 1)) h K)
 (Br (decide (i > j))
 (0 ≤ a ∧
 a < (↑datan : Int) ∧
 withAddr data fun (b o : Nat) =>
 ∃ (n : Int),
 Heap.cell h b (o + Int.toNat a) = some (int IntKind.i64 n) ∧
 0 ≤ j ∧
 j < (↑datan : Int) ∧
 withAddr data fun (b o : Nat) =>
 ∃ (n_2 : Int),
 Heap.cell h b (o + Int.toNat j) = some (int IntKind.i64 n_2) ∧
 0 ≤ j ∧
 j < (↑datan : Int) ∧
 withAddr data fun (b o : Nat) =>
 Heap.canSt h b (o + Int.toNat j) 1 ∧
 0 ≤ a ∧
 a < (↑datan : Int) ∧
 withAddr data fun (b_1 o_1 : Nat) =>
 Heap.canSt (Heap.setN h b (o + Int.toNat j) [int IntKind.i64 n]) b_1 (o_1 + Int.toNat a) 1 ∧
 Ret (Heap.setN (Heap.setN h b (o + Int.toNat j) [int IntKind.i64 n]) b_1 (o_1 + Int.toNat a) [int IntKind.i64 n_2]) K
 (tuple #[int IntKind.i64 j, Value.bool true]))
 (0 ≤ j ∧
 j < (↑datan : Int) ∧
 withAddr data fun (b o : Nat) =>
 ∃ (n : Int),
 Heap.cell h b (o + Int.toNat j) = some (int IntKind.i64 n) ∧
 0 ≤ i ∧
 i < (↑datan : Int) ∧
 withAddr data fun (b o : Nat) =>
 ∃ (n_2 : Int),
 Heap.cell h b (o + Int.toNat i) = some (int IntKind.i64 n_2) ∧
 0 ≤ i ∧
 i < (↑datan : Int) ∧
 withAddr data fun (b o : Nat) =>
 Heap.canSt h b (o + Int.toNat i) 1 ∧
 0 ≤ j ∧
 j < (↑datan : Int) ∧
 withAddr data fun (b_1 o_1 : Nat) =>
 Heap.canSt (Heap.setN h b (o + Int.toNat i) [int IntKind.i64 n]) b_1 (o_1 + Int.toNat j) 1 ∧
 L_slices_partitionCmpFunc_int_2 data datan datac a cmp_0_0 cmp_0_0n cmp_0_0c (IntKind.wrap IntKind.i64 (i + 1)) (IntKind.wrap IntKind.i64 (j - 1))
 (Heap.setN (Heap.setN h b (o + Int.toNat i) [int IntKind.i64 n]) b_1 (o_1 + Int.toNat j) [int IntKind.i64 n_2]) K)))
 (Br (decide (i > j))
 (0 ≤ a ∧
 a < (↑datan : Int) ∧
 withAddr data fun (b o : Nat) =>
 ∃ (n : Int),
 Heap.cell h b (o + Int.toNat a) = some (int IntKind.i64 n) ∧
 0 ≤ j ∧
 j < (↑datan : Int) ∧
 withAddr data fun (b o : Nat) =>
 ∃ (n_1 : Int),
 Heap.cell h b (o + Int.toNat j) = some (int IntKind.i64 n_1) ∧
 0 ≤ j ∧
 j < (↑datan : Int) ∧
 withAddr data fun (b o : Nat) =>
 Heap.canSt h b (o + Int.toNat j) 1 ∧
 0 ≤ a ∧
 a < (↑datan : Int) ∧
 withAddr data fun (b_1 o_1 : Nat) =>
 Heap.canSt (Heap.setN h b (o + Int.toNat j) [int IntKind.i64 n]) b_1 (o_1 + Int.toNat a) 1 ∧
 Ret (Heap.setN (Heap.setN h b (o + Int.toNat j) [int IntKind.i64 n]) b_1 (o_1 + Int.toNat a) [int IntKind.i64 n_1]) K (tuple #[int IntKind.i64 j, Value.bool true]))
 (0 ≤ j ∧
 j < (↑datan : Int) ∧
 withAddr data fun (b o : Nat) =>
 ∃ (n : Int),
 Heap.cell h b (o + Int.toNat j) = some (int IntKind.i64 n) ∧
 0 ≤ i ∧
 i < (↑datan : Int) ∧
 withAddr data fun (b o : Nat) =>
 ∃ (n_1 : Int),
 Heap.cell h b (o + Int.toNat i) = some (int IntKind.i64 n_1) ∧
 0 ≤ i ∧
 i < (↑datan : Int) ∧
 withAddr data fun (b o : Nat) =>
 Heap.canSt h b (o + Int.toNat i) 1 ∧
 0 ≤ j ∧
 j < (↑datan : Int) ∧
 withAddr data fun (b_1 o_1 : Nat) =>
 Heap.canSt (Heap.setN h b (o + Int.toNat i) [int IntKind.i64 n]) b_1 (o_1 + Int.toNat j) 1 ∧
 L_slices_partitionCmpFunc_int_2 data datan datac a cmp_0_0 cmp_0_0n cmp_0_0c (IntKind.wrap IntKind.i64 (i + 1)) (IntKind.wrap IntKind.i64 (j - 1))
 (Heap.setN (Heap.setN h b (o + Int.toNat i) [int IntKind.i64 n]) b_1 (o_1 + Int.toNat j) [int IntKind.i64 n_1]) K))
theorem L_slices_partitionCmpFunc_int_1r (data : Option Addr) (datan : Nat) (datac : Nat) (a : Int) (cmp_0_0 : Option Addr) (cmp_0_0n : Nat) (cmp_0_0c : Nat) (i : Int) (j : Int) (h : Heap) (K : Value → Heap → Prop) (k : L_slices_partitionCmpFunc_int_1T data datan datac a cmp_0_0 cmp_0_0n cmp_0_0c i j h K) : L_slices_partitionCmpFunc_int_1 data datan datac a cmp_0_0 cmp_0_0n cmp_0_0c i j h K :=
 LoopAt.of_ev (cs := []) Try.func144 mixed (fun junk => by kernel_rfl) k
def L_slices_partitionCmpFunc_int_2T (data : Option Addr) (datan : Nat) (datac : Nat) (a : Int) (cmp_0_0 : Option Addr) (cmp_0_0n : Nat) (cmp_0_0c : Nat) (i : Int) (j : Int) (h : Heap) (K : Value → Heap → Prop) : Prop :=
 L_slices_partitionCmpFunc_int_3 data datan datac a cmp_0_0 cmp_0_0n cmp_0_0c i j h K
theorem L_slices_partitionCmpFunc_int_2r (data : Option Addr) (datan : Nat) (datac : Nat) (a : Int) (cmp_0_0 : Option Addr) (cmp_0_0n : Nat) (cmp_0_0c : Nat) (i : Int) (j : Int) (h : Heap) (K : Value → Heap → Prop) (k : L_slices_partitionCmpFunc_int_2T data datan datac a cmp_0_0 cmp_0_0n cmp_0_0c i j h K) : L_slices_partitionCmpFunc_int_2 data datan datac a cmp_0_0 cmp_0_0n cmp_0_0c i j h K :=
 LoopAt.of_ev (cs := []) Try.func144 mixed (fun junk => by kernel_rfl) k
def L_slices_partitionCmpFunc_int_3T (data : Option Addr) (datan : Nat) (datac : Nat) (a : Int) (cmp_0_0 : Option Addr) (cmp_0_0n : Nat) (cmp_0_0c : Nat) (i : Int) (j : Int) (h : Heap) (K : Value → Heap → Prop) : Prop :=
 Br (decide (i ≤ j))
 (0 ≤ i ∧
 i < (↑datan : Int) ∧
 withAddr data fun (b o : Nat) =>
 ∃ (n : Int),
 Heap.cell h b (o + Int.toNat i) = some (int IntKind.i64 n) ∧
 0 ≤ a ∧
 a < (↑datan : Int) ∧
 withAddr data fun (b o : Nat) =>
 ∃ (n_1 : Int),
 Heap.cell h b (o + Int.toNat a) = some (int IntKind.i64 n_1) ∧
 CallA Try.prog fn_split_by_order [agg #[slice cmp_0_0 cmp_0_0n cmp_0_0c], int IntKind.i64 n, int IntKind.i64 n_1] h fun (v : Value) (h : Heap) =>
 ∃ (n : Int),
 v = int IntKind.i64 n ∧
 Br (decide (n < 0)) (L_slices_partitionCmpFunc_int_3 data datan datac a cmp_0_0 cmp_0_0n cmp_0_0c (IntKind.wrap IntKind.i64 (i + 1)) j h K) (L_slices_partitionCmpFunc_int_4 data datan datac a cmp_0_0 cmp_0_0n cmp_0_0c i j h K))
 (L_slices_partitionCmpFunc_int_4 data datan datac a cmp_0_0 cmp_0_0n cmp_0_0c i j h K)
theorem L_slices_partitionCmpFunc_int_3r (data : Option Addr) (datan : Nat) (datac : Nat) (a : Int) (cmp_0_0 : Option Addr) (cmp_0_0n : Nat) (cmp_0_0c : Nat) (i : Int) (j : Int) (h : Heap) (K : Value → Heap → Prop) (k : L_slices_partitionCmpFunc_int_3T data datan datac a cmp_0_0 cmp_0_0n cmp_0_0c i j h K) : L_slices_partitionCmpFunc_int_3 data datan datac a cmp_0_0 cmp_0_0n cmp_0_0c i j h K :=
 LoopAt.of_ev (cs := []) Try.func144 mixed (fun junk => by kernel_rfl) k
def L_slices_partitionCmpFunc_int_4T (data : Option Addr) (datan : Nat) (datac : Nat) (a : Int) (cmp_0_0 : Option Addr) (cmp_0_0n : Nat) (cmp_0_0c : Nat) (i : Int) (j : Int) (h : Heap) (K : Value → Heap → Prop) : Prop :=
 Br (decide (i ≤ j))
 (0 ≤ j ∧
 j < (↑datan : Int) ∧
 withAddr data fun (b o : Nat) =>
 ∃ (n : Int),
 Heap.cell h b (o + Int.toNat j) = some (int IntKind.i64 n) ∧
 0 ≤ a ∧
 a < (↑datan : Int) ∧
 withAddr data fun (b o : Nat) =>
 ∃ (n_1 : Int),
 Heap.cell h b (o + Int.toNat a) = some (int IntKind.i64 n_1) ∧
 CallA Try.prog fn_split_by_order [agg #[slice cmp_0_0 cmp_0_0n cmp_0_0c], int IntKind.i64 n, int IntKind.i64 n_1] h fun (v : Value) (h : Heap) =>
 ∃ (n : Int),
 v = int IntKind.i64 n ∧
 Br (!decide (n < 0)) (L_slices_partitionCmpFunc_int_4 data datan datac a cmp_0_0 cmp_0_0n cmp_0_0c i (IntKind.wrap IntKind.i64 (j - 1)) h K)
 (Br (decide (i > j))
 (0 ≤ a ∧
 a < (↑datan : Int) ∧
 withAddr data fun (b o : Nat) =>
 ∃ (n : Int),
 Heap.cell h b (o + Int.toNat a) = some (int IntKind.i64 n) ∧
 0 ≤ j ∧
 j < (↑datan : Int) ∧
 withAddr data fun (b o : Nat) =>
 ∃ (n_2 : Int),
 Heap.cell h b (o + Int.toNat j) = some (int IntKind.i64 n_2) ∧
 0 ≤ j ∧
 j < (↑datan : Int) ∧
 withAddr data fun (b o : Nat) =>
 Heap.canSt h b (o + Int.toNat j) 1 ∧
 0 ≤ a ∧
 a < (↑datan : Int) ∧
 withAddr data fun (b_1 o_1 : Nat) =>
 Heap.canSt (Heap.setN h b (o + Int.toNat j) [int IntKind.i64 n]) b_1 (o_1 + Int.toNat a) 1 ∧
 Ret (Heap.setN (Heap.setN h b (o + Int.toNat j) [int IntKind.i64 n]) b_1 (o_1 + Int.toNat a) [int IntKind.i64 n_2]) K
 (tuple #[int IntKind.i64 j, Value.bool false]))
 (0 ≤ j ∧
 j < (↑datan : Int) ∧
 withAddr data fun (b o : Nat) =>
 ∃ (n : Int),
 Heap.cell h b (o + Int.toNat j) = some (int IntKind.i64 n) ∧
 0 ≤ i ∧
 i < (↑datan : Int) ∧
 withAddr data fun (b o : Nat) =>
 ∃ (n_2 : Int),
 Heap.cell h b (o + Int.toNat i) = some (int IntKind.i64 n_2) ∧
 0 ≤ i ∧
 i < (↑datan : Int) ∧
 withAddr data fun (b o : Nat) =>
 Heap.canSt h b (o + Int.toNat i) 1 ∧
 0 ≤ j ∧
 j < (↑datan : Int) ∧
 withAddr data fun (b_1 o_1 : Nat) =>
 Heap.canSt (Heap.setN h b (o + Int.toNat i) [int IntKind.i64 n]) b_1 (o_1 + Int.toNat j) 1 ∧
 L_slices_partitionCmpFunc_int_2 data datan datac a cmp_0_0 cmp_0_0n cmp_0_0c (IntKind.wrap IntKind.i64 (i + 1)) (IntKind.wrap IntKind.i64 (j - 1))
 (Heap.setN (Heap.setN h b (o + Int.toNat i) [int IntKind.i64 n]) b_1 (o_1 + Int.toNat j) [int IntKind.i64 n_2]) K)))
 (Br (decide (i > j))
 (0 ≤ a ∧
 a < (↑datan : Int) ∧
 withAddr data fun (b o : Nat) =>
 ∃ (n : Int),
 Heap.cell h b (o + Int.toNat a) = some (int IntKind.i64 n) ∧
 0 ≤ j ∧
 j < (↑datan : Int) ∧
 withAddr data fun (b o : Nat) =>
 ∃ (n_1 : Int),
 Heap.cell h b (o + Int.toNat j) = some (int IntKind.i64 n_1) ∧
 0 ≤ j ∧
 j < (↑datan : Int) ∧
 withAddr data fun (b o : Nat) =>
 Heap.canSt h b (o + Int.toNat j) 1 ∧
 0 ≤ a ∧
 a < (↑datan : Int) ∧
 withAddr data fun (b_1 o_1 : Nat) =>
 Heap.canSt (Heap.setN h b (o + Int.toNat j) [int IntKind.i64 n]) b_1 (o_1 + Int.toNat a) 1 ∧
 Ret (Heap.setN (Heap.setN h b (o + Int.toNat j) [int IntKind.i64 n]) b_1 (o_1 + Int.toNat a) [int IntKind.i64 n_1]) K (tuple #[int IntKind.i64 j, Value.bool false]))
 (0 ≤ j ∧
 j < (↑datan : Int) ∧
 withAddr data fun (b o : Nat) =>
 ∃ (n : Int),
 Heap.cell h b (o + Int.toNat j) = some (int IntKind.i64 n) ∧
 0 ≤ i ∧
 i < (↑datan : Int) ∧
 withAddr data fun (b o : Nat) =>
 ∃ (n_1 : Int),
 Heap.cell h b (o + Int.toNat i) = some (int IntKind.i64 n_1) ∧
 0 ≤ i ∧
 i < (↑datan : Int) ∧
 withAddr data fun (b o : Nat) =>
 Heap.canSt h b (o + Int.toNat i) 1 ∧
 0 ≤ j ∧
 j < (↑datan : Int) ∧
 withAddr data fun (b_1 o_1 : Nat) =>
 Heap.canSt (Heap.setN h b (o + Int.toNat i) [int IntKind.i64 n]) b_1 (o_1 + Int.toNat j) 1 ∧
 L_slices_partitionCmpFunc_int_2 data datan datac a cmp_0_0 cmp_0_0n cmp_0_0c (IntKind.wrap IntKind.i64 (i + 1)) (IntKind.wrap IntKind.i64 (j - 1))
 (Heap.setN (Heap.setN h b (o + Int.toNat i) [int IntKind.i64 n]) b_1 (o_1 + Int.toNat j) [int IntKind.i64 n_1]) K))
theorem L_slices_partitionCmpFunc_int_4r (data : Option Addr) (datan : Nat) (datac : Nat) (a : Int) (cmp_0_0 : Option Addr) (cmp_0_0n : Nat) (cmp_0_0c : Nat) (i : Int) (j : Int) (h : Heap) (K : Value → Heap → Prop) (k : L_slices_partitionCmpFunc_int_4T data datan datac a cmp_0_0 cmp_0_0n cmp_0_0c i j h K) : L_slices_partitionCmpFunc_int_4 data datan datac a cmp_0_0 cmp_0_0n cmp_0_0c i j h K :=
 LoopAt.of_ev (cs := []) Try.func144 mixed (fun junk => by kernel_rfl) k
def F_slices_partitionCmpFunc_intT (data : Option Addr) (datan : Nat) (datac : Nat) (a : Int) (b : Int) (pivot : Int) (cmp_0 : Option Addr) (cmp_0n : Nat) (cmp_0c : Nat) (h : Heap) (K : Value → Heap → Prop) : Prop :=
 0 ≤ pivot ∧
 pivot < (↑datan : Int) ∧
 withAddr data fun (b_1 o : Nat) =>
 ∃ (n : Int),
 Heap.cell h b_1 (o + Int.toNat pivot) = some (int IntKind.i64 n) ∧
 0 ≤ a ∧
 a < (↑datan : Int) ∧
 withAddr data fun (b_2 o : Nat) =>
 ∃ (n_1 : Int),
 Heap.cell h b_2 (o + Int.toNat a) = some (int IntKind.i64 n_1) ∧
 0 ≤ a ∧
 a < (↑datan : Int) ∧
 withAddr data fun (b_3 o : Nat) =>
 Heap.canSt h b_3 (o + Int.toNat a) 1 ∧
 0 ≤ pivot ∧
 pivot < (↑datan : Int) ∧
 withAddr data fun (b_4 o_1 : Nat) =>
 Heap.canSt (Heap.setN h b_3 (o + Int.toNat a) [int IntKind.i64 n]) b_4 (o_1 + Int.toNat pivot) 1 ∧
 L_slices_partitionCmpFunc_int_0 data datan datac a cmp_0 cmp_0n cmp_0c (IntKind.wrap IntKind.i64 (a + 1)) (IntKind.wrap IntKind.i64 (b - 1))
 (Heap.setN (Heap.setN h b_3 (o + Int.toNat a) [int IntKind.i64 n]) b_4 (o_1 + Int.toNat pivot) [int IntKind.i64 n_1]) K
theorem F_slices_partitionCmpFunc_int (data : Option Addr) (datan : Nat) (datac : Nat) (a : Int) (b : Int) (pivot : Int) (cmp_0 : Option Addr) (cmp_0n : Nat) (cmp_0c : Nat) (h : Heap) (K : Value → Heap → Prop) (k : F_slices_partitionCmpFunc_intT data datan datac a b pivot cmp_0 cmp_0n cmp_0c h K) : CallA Try.prog fn_slices_partitionCmpFunc_int [slice data datan datac, int IntKind.i64 a, int IntKind.i64 b, int IntKind.i64 pivot, func (Fn.func fn_split_by_order) #[agg #[slice cmp_0 cmp_0n cmp_0c]] #[]] h K :=
 CallA.of_ev (cs := []) Try.func144 (by kernel_rfl) (fun _ _ => Try.call144 _ _) mixed (by kernel_rfl) (by kernel_rfl) k
def L_slices_partitionEqualCmpFunc_int_0 (data : Option Addr) (datan : Nat) (datac : Nat) (a : Int) (cmp_0_0 : Option Addr) (cmp_0_0n : Nat) (cmp_0_0c : Nat) (i : Int) (j : Int) (h : Heap) (K : Value → Heap → Prop) : Prop :=
 LoopAt Try.prog Try.f143 143 (loopK Try.f143 0) (sp 90 [(0, slice data datan datac), (1, int IntKind.i64 a), (4, func (Fn.func fn_split_by_order) #[agg #[slice cmp_0_0 cmp_0_0n cmp_0_0c]] #[]), (11, int IntKind.i64 i), (12, int IntKind.i64 j)]) h K
def L_slices_partitionEqualCmpFunc_int_1 (data : Option Addr) (datan : Nat) (datac : Nat) (a : Int) (cmp_0_0 : Option Addr) (cmp_0_0n : Nat) (cmp_0_0c : Nat) (i : Int) (j : Int) (h : Heap) (K : Value → Heap → Prop) : Prop :=
 LoopAt Try.prog Try.f143 143 (loopK Try.f143 1) (sp 90 [(0, slice data datan datac), (1, int IntKind.i64 a), (4, func (Fn.func fn_split_by_order) #[agg #[slice cmp_0_0 cmp_0_0n cmp_0_0c]] #[]), (11, int IntKind.i64 i), (12, int IntKind.i64 j)]) h K
def L_slices_partitionEqualCmpFunc_int_2 (data : Option Addr) (datan : Nat) (datac : Nat) (a : Int) (cmp_0_0 : Option Addr) (cmp_0_0n : Nat) (cmp_0_0c : Nat) (i : Int) (j : Int) (h : Heap) (K : Value → Heap → Prop) : Prop :=
 LoopAt Try.prog Try.f143 143 (loopK Try.f143 2) (sp 90 [(0, slice data datan datac), (1, int IntKind.i64 a), (4, func (Fn.func fn_split_by_order) #[agg #[slice cmp_0_0 cmp_0_0n cmp_0_0c]] #[]), (11, int IntKind.i64 i), (12, int IntKind.i64 j)]) h K
def L_slices_partitionEqualCmpFunc_int_0T (data : Option Addr) (datan : Nat) (datac : Nat) (a : Int) (cmp_0_0 : Option Addr) (cmp_0_0n : Nat) (cmp_0_0c : Nat) (i : Int) (j : Int) (h : Heap) (K : Value → Heap → Prop) : Prop :=
 L_slices_partitionEqualCmpFunc_int_1 data datan datac a cmp_0_0 cmp_0_0n cmp_0_0c i j h K
theorem L_slices_partitionEqualCmpFunc_int_0r (data : Option Addr) (datan : Nat) (datac : Nat) (a : Int) (cmp_0_0 : Option Addr) (cmp_0_0n : Nat) (cmp_0_0c : Nat) (i : Int) (j : Int) (h : Heap) (K : Value → Heap → Prop) (k : L_slices_partitionEqualCmpFunc_int_0T data datan datac a cmp_0_0 cmp_0_0n cmp_0_0c i j h K) : L_slices_partitionEqualCmpFunc_int_0 data datan datac a cmp_0_0 cmp_0_0n cmp_0_0c i j h K :=
 LoopAt.of_ev (cs := []) Try.func143 mixed (fun junk => by kernel_rfl) k
def L_slices_partitionEqualCmpFunc_int_1T (data : Option Addr) (datan : Nat) (datac : Nat) (a : Int) (cmp_0_0 : Option Addr) (cmp_0_0n : Nat) (cmp_0_0c : Nat) (i : Int) (j : Int) (h : Heap) (K : Value → Heap → Prop) : Prop :=
 Br (decide (i ≤ j))
 (0 ≤ a ∧
 a < (↑datan : Int) ∧
 withAddr data fun (b o : Nat) =>
 ∃ (n : Int),
 Heap.cell h b (o + Int.toNat a) = some (int IntKind.i64 n) ∧
 0 ≤ i ∧
 i < (↑datan : Int) ∧
 withAddr data fun (b o : Nat) =>
 ∃ (n_1 : Int),
 Heap.cell h b (o + Int.toNat i) = some (int IntKind.i64 n_1) ∧
 CallA Try.prog fn_split_by_order [agg #[slice cmp_0_0 cmp_0_0n cmp_0_0c], int IntKind.i64 n, int IntKind.i64 n_1] h fun (v : Value) (h : Heap) =>
 ∃ (n : Int),
 v = int IntKind.i64 n ∧
 Br (!decide (n < 0)) (L_slices_partitionEqualCmpFunc_int_1 data datan datac a cmp_0_0 cmp_0_0n cmp_0_0c (IntKind.wrap IntKind.i64 (i + 1)) j h K) (L_slices_partitionEqualCmpFunc_int_2 data datan datac a cmp_0_0 cmp_0_0n cmp_0_0c i j h K))
 (L_slices_partitionEqualCmpFunc_int_2 data datan datac a cmp_0_0 cmp_0_0n cmp_0_0c i j h K)
theorem L_slices_partitionEqualCmpFunc_int_1r (data : Option Addr) (datan : Nat) (datac : Nat) (a : Int) (cmp_0_0 : Option Addr) (cmp_0_0n : Nat) (cmp_0_0c : Nat) (i : Int) (j : Int) (h : Heap) (K : Value → Heap → Prop) (k : L_slices_partitionEqualCmpFunc_int_1T data datan datac a cmp_0_0 cmp_0_0n cmp_0_0c i j h K) : L_slices_partitionEqualCmpFunc_int_1 data datan datac a cmp_0_0 cmp_0_0n cmp_0_0c i j h K :=
 LoopAt.of_ev (cs := []) Try.func143 mixed (fun junk => by kernel_rfl) k
def L_slices_partitionEqualCmpFunc_int_2T (data : Option Addr) (datan : Nat) (datac : Nat) (a : Int) (cmp_0_0 : Option Addr) (cmp_0_0n : Nat) (cmp_0_0c : Nat) (i : Int) (j : Int) (h : Heap) (K : Value → Heap → Prop) : Prop :=
 Br (decide (i ≤ j))
 (0 ≤ a ∧
 a < (↑datan : Int) ∧
 withAddr data fun (b o : Nat) =>
 ∃ (n : Int),
 Heap.cell h b (o + Int.toNat a) = some (int IntKind.i64 n) ∧
 0 ≤ j ∧
 j < (↑datan : Int) ∧
 withAddr data fun (b o : Nat) =>
 ∃ (n_1 : Int),
 Heap.cell h b (o + Int.toNat j) = some (int IntKind.i64 n_1) ∧
 CallA Try.prog fn_split_by_order [agg #[slice cmp_0_0 cmp_0_0n cmp_0_0c], int IntKind.i64 n, int IntKind.i64 n_1] h fun (v : Value) (h : Heap) =>
 ∃ (n : Int),
 v = int IntKind.i64 n ∧
 Br (decide (n < 0)) (L_slices_partitionEqualCmpFunc_int_2 data datan datac a cmp_0_0 cmp_0_0n cmp_0_0c i (IntKind.wrap IntKind.i64 (j - 1)) h K)
 (Br (decide (i > j)) (Ret h K (int IntKind.i64 i))
 (0 ≤ j ∧
 j < (↑datan : Int) ∧
 withAddr data fun (b o : Nat) =>
 ∃ (n : Int),
 Heap.cell h b (o + Int.toNat j) = some (int IntKind.i64 n) ∧
 0 ≤ i ∧
 i < (↑datan : Int) ∧
 withAddr data fun (b o : Nat) =>
 ∃ (n_2 : Int),
 Heap.cell h b (o + Int.toNat i) = some (int IntKind.i64 n_2) ∧
 0 ≤ i ∧
 i < (↑datan : Int) ∧
 withAddr data fun (b o : Nat) =>
 Heap.canSt h b (o + Int.toNat i) 1 ∧
 0 ≤ j ∧
 j < (↑datan : Int) ∧
 withAddr data fun (b_1 o_1 : Nat) =>
 Heap.canSt (Heap.setN h b (o + Int.toNat i) [int IntKind.i64 n]) b_1 (o_1 + Int.toNat j) 1 ∧
 L_slices_partitionEqualCmpFunc_int_0 data datan datac a cmp_0_0 cmp_0_0n cmp_0_0c (IntKind.wrap IntKind.i64 (i + 1)) (IntKind.wrap IntKind.i64 (j - 1))
 (Heap.setN (Heap.setN h b (o + Int.toNat i) [int IntKind.i64 n]) b_1 (o_1 + Int.toNat j) [int IntKind.i64 n_2]) K)))
 (Br (decide (i > j)) (Ret h K (int IntKind.i64 i))
 (0 ≤ j ∧
 j < (↑datan : Int) ∧
 withAddr data fun (b o : Nat) =>
 ∃ (n : Int),
 Heap.cell h b (o + Int.toNat j) = some (int IntKind.i64 n) ∧
 0 ≤ i ∧
 i < (↑datan : Int) ∧
 withAddr data fun (b o : Nat) =>
 ∃ (n_1 : Int),
 Heap.cell h b (o + Int.toNat i) = some (int IntKind.i64 n_1) ∧
 0 ≤ i ∧
 i < (↑datan : Int) ∧
 withAddr data fun (b o : Nat) =>
 Heap.canSt h b (o + Int.toNat i) 1 ∧
 0 ≤ j ∧
 j < (↑datan : Int) ∧
 withAddr data fun (b_1 o_1 : Nat) =>
 Heap.canSt (Heap.setN h b (o + Int.toNat i) [int IntKind.i64 n]) b_1 (o_1 + Int.toNat j) 1 ∧
 L_slices_partitionEqualCmpFunc_int_0 data datan datac a cmp_0_0 cmp_0_0n cmp_0_0c (IntKind.wrap IntKind.i64 (i + 1)) (IntKind.wrap IntKind.i64 (j - 1))
 (Heap.setN (Heap.setN h b (o + Int.toNat i) [int IntKind.i64 n]) b_1 (o_1 + Int.toNat j) [int IntKind.i64 n_1]) K))
theorem L_slices_partitionEqualCmpFunc_int_2r (data : Option Addr) (datan : Nat) (datac : Nat) (a : Int) (cmp_0_0 : Option Addr) (cmp_0_0n : Nat) (cmp_0_0c : Nat) (i : Int) (j : Int) (h : Heap) (K : Value → Heap → Prop) (k : L_slices_partitionEqualCmpFunc_int_2T data datan datac a cmp_0_0 cmp_0_0n cmp_0_0c i j h K) : L_slices_partitionEqualCmpFunc_int_2 data datan datac a cmp_0_0 cmp_0_0n cmp_0_0c i j h K :=
 LoopAt.of_ev (cs := []) Try.func143 mixed (fun junk => by kernel_rfl) k
def F_slices_partitionEqualCmpFunc_intT (data : Option Addr) (datan : Nat) (datac : Nat) (a : Int) (b : Int) (pivot : Int) (cmp_0 : Option Addr) (cmp_0n : Nat) (cmp_0c : Nat) (h : Heap) (K : Value → Heap → Prop) : Prop :=
 0 ≤ pivot ∧
 pivot < (↑datan : Int) ∧
 withAddr data fun (b_1 o : Nat) =>
 ∃ (n : Int),
 Heap.cell h b_1 (o + Int.toNat pivot) = some (int IntKind.i64 n) ∧
 0 ≤ a ∧
 a < (↑datan : Int) ∧
 withAddr data fun (b_2 o : Nat) =>
 ∃ (n_1 : Int),
 Heap.cell h b_2 (o + Int.toNat a) = some (int IntKind.i64 n_1) ∧
 0 ≤ a ∧
 a < (↑datan : Int) ∧
 withAddr data fun (b_3 o : Nat) =>
 Heap.canSt h b_3 (o + Int.toNat a) 1 ∧
 0 ≤ pivot ∧
 pivot < (↑datan : Int) ∧
 withAddr data fun (b_4 o_1 : Nat) =>
 Heap.canSt (Heap.setN h b_3 (o + Int.toNat a) [int IntKind.i64 n]) b_4 (o_1 + Int.toNat pivot) 1 ∧
 L_slices_partitionEqualCmpFunc_int_0 data datan datac a cmp_0 cmp_0n cmp_0c (IntKind.wrap IntKind.i64 (a + 1)) (IntKind.wrap IntKind.i64 (b - 1))
 (Heap.setN (Heap.setN h b_3 (o + Int.toNat a) [int IntKind.i64 n]) b_4 (o_1 + Int.toNat pivot) [int IntKind.i64 n_1]) K
theorem F_slices_partitionEqualCmpFunc_int (data : Option Addr) (datan : Nat) (datac : Nat) (a : Int) (b : Int) (pivot : Int) (cmp_0 : Option Addr) (cmp_0n : Nat) (cmp_0c : Nat) (h : Heap) (K : Value → Heap → Prop) (k : F_slices_partitionEqualCmpFunc_intT data datan datac a b pivot cmp_0 cmp_0n cmp_0c h K) : CallA Try.prog fn_slices_partitionEqualCmpFunc_int [slice data datan datac, int IntKind.i64 a, int IntKind.i64 b, int IntKind.i64 pivot, func (Fn.func fn_split_by_order) #[agg #[slice cmp_0 cmp_0n cmp_0c]] #[]] h K :=
 CallA.of_ev (cs := []) Try.func143 (by kernel_rfl) (fun _ _ => Try.call143 _ _) mixed (by kernel_rfl) (by kernel_rfl) k
def L_slices_partialInsertionSortCmpFunc_int_0 (data : Option Addr) (datan : Nat) (datac : Nat) (a : Int) (b : Int) (cmp_0_0 : Option Addr) (cmp_0_0n : Nat) (cmp_0_0c : Nat) (i : Int) (j : Int) (h : Heap) (K : Value → Heap → Prop) : Prop :=
 LoopAt Try.prog Try.f142 142 (loopK Try.f142 0) (sp 141 [(0, slice data datan datac), (1, int IntKind.i64 a), (2, int IntKind.i64 b), (3, func (Fn.func fn_split_by_order) #[agg #[slice cmp_0_0 cmp_0_0n cmp_0_0c]] #[]), (9, int IntKind.i64 i), (10, int IntKind.i64 j)]) h K
def L_slices_partialInsertionSortCmpFunc_int_1 (data : Option Addr) (datan : Nat) (datac : Nat) (a : Int) (b : Int) (cmp_0_0 : Option Addr) (cmp_0_0n : Nat) (cmp_0_0c : Nat) (i : Int) (j : Int) (h : Heap) (K : Value → Heap → Prop) : Prop :=
 LoopAt Try.prog Try.f142 142 (loopK Try.f142 1) (sp 141 [(0, slice data datan datac), (1, int IntKind.i64 a), (2, int IntKind.i64 b), (3, func (Fn.func fn_split_by_order) #[agg #[slice cmp_0_0 cmp_0_0n cmp_0_0c]] #[]), (9, int IntKind.i64 i), (10, int IntKind.i64 j)]) h K
def L_slices_partialInsertionSortCmpFunc_int_2 (data : Option Addr) (datan : Nat) (datac : Nat) (a : Int) (b : Int) (cmp_0_0 : Option Addr) (cmp_0_0n : Nat) (cmp_0_0c : Nat) (i : Int) (j : Int) (j1 : Int) (h : Heap) (K : Value → Heap → Prop) : Prop :=
 LoopAt Try.prog Try.f142 142 (loopK Try.f142 2) (sp 141 [(0, slice data datan datac), (1, int IntKind.i64 a), (2, int IntKind.i64 b), (3, func (Fn.func fn_split_by_order) #[agg #[slice cmp_0_0 cmp_0_0n cmp_0_0c]] #[]), (9, int IntKind.i64 i), (10, int IntKind.i64 j),
 (11, int IntKind.i64 j1)]) h K
def L_slices_partialInsertionSortCmpFunc_int_3 (data : Option Addr) (datan : Nat) (datac : Nat) (a : Int) (b : Int) (cmp_0_0 : Option Addr) (cmp_0_0n : Nat) (cmp_0_0c : Nat) (i : Int) (j : Int) (j1 : Int) (h : Heap) (K : Value → Heap → Prop) : Prop :=
 LoopAt Try.prog Try.f142 142 (loopK Try.f142 3) (sp 141 [(0, slice data datan datac), (1, int IntKind.i64 a), (2, int IntKind.i64 b), (3, func (Fn.func fn_split_by_order) #[agg #[slice cmp_0_0 cmp_0_0n cmp_0_0c]] #[]), (9, int IntKind.i64 i), (10, int IntKind.i64 j),
 (12, int IntKind.i64 j1)]) h K
def L_slices_partialInsertionSortCmpFunc_int_0T (data : Option Addr) (datan : Nat) (datac : Nat) (a : Int) (b : Int) (cmp_0_0 : Option Addr) (cmp_0_0n : Nat) (cmp_0_0c : Nat) (i : Int) (j : Int) (h : Heap) (K : Value → Heap → Prop) : Prop :=
 Br (decide (j < 5)) (L_slices_partialInsertionSortCmpFunc_int_1 data datan datac a b cmp_0_0 cmp_0_0n cmp_0_0c i j h K) (Ret h K (Value.bool false))
theorem L_slices_partialInsertionSortCmpFunc_int_0r (data : Option Addr) (datan : Nat) (datac : Nat) (a : Int) (b : Int) (cmp_0_0 : Option Addr) (cmp_0_0n : Nat) (cmp_0_0c : Nat) (i : Int) (j : Int) (h : Heap) (K : Value → Heap → Prop) (k : L_slices_partialInsertionSortCmpFunc_int_0T data datan datac a b cmp_0_0 cmp_0_0n cmp_0_0c i j h K) : L_slices_partialInsertionSortCmpFunc_int_0 data datan datac a b cmp_0_0 cmp_0_0n cmp_0_0c i j h K :=
 LoopAt.of_ev (cs := []) Try.func142 mixed (fun junk => by kernel_rfl) k
def L_slices_partialInsertionSortCmpFunc_int_1T (data : Option Addr) (datan : Nat) (datac : Nat) (a : Int) (b : Int) (cmp_0_0 : Option Addr) (cmp_0_0n : Nat) (cmp_0_0c : Nat) (i : Int) (j : Int) (h : Heap) (K : Value → Heap → Prop) : Prop :=
 Br (decide (i < b))
 (0 ≤ i ∧
 i < (↑datan : Int) ∧
 withAddr data fun (b_1 o : Nat) =>
 ∃ (n : Int),
 Heap.cell h b_1 (o + Int.toNat i) = some (int IntKind.i64 n) ∧
 0 ≤ IntKind.wrap IntKind.i64 (i - 1) ∧
 IntKind.wrap IntKind.i64 (i - 1) < (↑datan : Int) ∧
 withAddr data fun (b_2 o : Nat) =>
 ∃ (n_1 : Int),
 Heap.cell h b_2 (o + Int.toNat (IntKind.wrap IntKind.i64 (i - 1))) = some (int IntKind.i64 n_1) ∧
 CallA Try.prog fn_split_by_order [agg #[slice cmp_0_0 cmp_0_0n cmp_0_0c], int IntKind.i64 n, int IntKind.i64 n_1] h fun (v : Value) (h : Heap) =>
 ∃ (n : Int),
 v = int IntKind.i64 n ∧
 Br (!decide (n < 0)) (L_slices_partialInsertionSortCmpFunc_int_1 data datan datac a b cmp_0_0 cmp_0_0n cmp_0_0c (IntKind.wrap IntKind.i64 (i + 1)) j h K)
 (Br (i == b) (Ret h K (Value.bool true))
 (Br (decide (IntKind.wrap IntKind.i64 (b - a) < 50)) (Ret h K (Value.bool false))
 (0 ≤ IntKind.wrap IntKind.i64 (i - 1) ∧
 IntKind.wrap IntKind.i64 (i - 1) < (↑datan : Int) ∧
 withAddr data fun (b_3 o : Nat) =>
 ∃ (n : Int),
 Heap.cell h b_3 (o + Int.toNat (IntKind.wrap IntKind.i64 (i - 1))) = some (int IntKind.i64 n) ∧
 0 ≤ i ∧
 i < (↑datan : Int) ∧
 withAddr data fun (b_4 o : Nat) =>
 ∃ (n_2 : Int),
 Heap.cell h b_4 (o + Int.toNat i) = some (int IntKind.i64 n_2) ∧
 0 ≤ i ∧
 i < (↑datan : Int) ∧
 withAddr data fun (b_5 o : Nat) =>
 Heap.canSt h b_5 (o + Int.toNat i) 1 ∧
 0 ≤ IntKind.wrap IntKind.i64 (i - 1) ∧
 IntKind.wrap IntKind.i64 (i - 1) < (↑datan : Int) ∧
 withAddr data fun (b_6 o_1 : Nat) =>
 Heap.canSt (Heap.setN h b_5 (o + Int.toNat i) [int IntKind.i64 n]) b_6 (o_1 + Int.toNat (IntKind.wrap IntKind.i64 (i - 1))) 1 ∧
 Br (decide (IntKind.wrap IntKind.i64 (i - a) ≥ 2))
 (L_slices_partialInsertionSortCmpFunc_int_2 data datan datac a b cmp_0_0 cmp_0_0n cmp_0_0c i j (IntKind.wrap IntKind.i64 (i - 1))
 (Heap.setN (Heap.setN h b_5 (o + Int.toNat i) [int IntKind.i64 n]) b_6 (o_1 + Int.toNat (IntKind.wrap IntKind.i64 (i - 1))) [int IntKind.i64 n_2])
 K)
 (Br (decide (IntKind.wrap IntKind.i64 (b - i) ≥ 2))
 (L_slices_partialInsertionSortCmpFunc_int_3 data datan datac a b cmp_0_0 cmp_0_0n cmp_0_0c i j (IntKind.wrap IntKind.i64 (i + 1))
 (Heap.setN (Heap.setN h b_5 (o + Int.toNat i) [int IntKind.i64 n]) b_6 (o_1 + Int.toNat (IntKind.wrap IntKind.i64 (i - 1)))
 [int IntKind.i64 n_2])
 K)
 (L_slices_partialInsertionSortCmpFunc_int_0 data datan datac a b cmp_0_0 cmp_0_0n cmp_0_0c i (IntKind.wrap IntKind.i64 (j + 1))
 (Heap.setN (Heap.setN h b_5 (o + Int.toNat i) [int IntKind.i64 n]) b_6 (o_1 + Int.toNat (IntKind.wrap IntKind.i64 (i - 1)))
 [int IntKind.i64 n_2])
 K))))))
 (Br (i == b) (Ret h K (Value.bool true))
 (Br (decide (IntKind.wrap IntKind.i64 (b - a) < 50)) (Ret h K (Value.bool false))
 (0 ≤ IntKind.wrap IntKind.i64 (i - 1) ∧
 IntKind.wrap IntKind.i64 (i - 1) < (↑datan : Int) ∧
 withAddr data fun (b_1 o : Nat) =>
 ∃ (n : Int),
 Heap.cell h b_1 (o + Int.toNat (IntKind.wrap IntKind.i64 (i - 1))) = some (int IntKind.i64 n) ∧
 0 ≤ i ∧
 i < (↑datan : Int) ∧
 withAddr data fun (b_2 o : Nat) =>
 ∃ (n_1 : Int),
 Heap.cell h b_2 (o + Int.toNat i) = some (int IntKind.i64 n_1) ∧
 0 ≤ i ∧
 i < (↑datan : Int) ∧
 withAddr data fun (b_3 o : Nat) =>
 Heap.canSt h b_3 (o + Int.toNat i) 1 ∧
 0 ≤ IntKind.wrap IntKind.i64 (i - 1) ∧
 IntKind.wrap IntKind.i64 (i - 1) < (↑datan : Int) ∧
 withAddr data fun (b_4 o_1 : Nat) =>
 Heap.canSt (Heap.setN h b_3 (o + Int.toNat i) [int IntKind.i64 n]) b_4 (o_1 + Int.toNat (IntKind.wrap IntKind.i64 (i - 1))) 1 ∧
 Br (decide (IntKind.wrap IntKind.i64 (i - a) ≥ 2))
 (L_slices_partialInsertionSortCmpFunc_int_2 data datan datac a b cmp_0_0 cmp_0_0n cmp_0_0c i j (IntKind.wrap IntKind.i64 (i - 1))
 (Heap.setN (Heap.setN h b_3 (o + Int.toNat i) [int IntKind.i64 n]) b_4 (o_1 + Int.toNat (IntKind.wrap IntKind.i64 (i - 1))) [int IntKind.i64 n_1]) K)
 (Br (decide (IntKind.wrap IntKind.i64 (b - i) ≥ 2))
 (L_slices_partialInsertionSortCmpFunc_int_3 data datan datac a b cmp_0_0 cmp_0_0n cmp_0_0c i j (IntKind.wrap IntKind.i64 (i + 1))
 (Heap.setN (Heap.setN h b_3 (o + Int.toNat i) [int IntKind.i64 n]) b_4 (o_1 + Int.toNat (IntKind.wrap IntKind.i64 (i - 1))) [int IntKind.i64 n_1]) K)
 (L_slices_partialInsertionSortCmpFunc_int_0 data datan datac a b cmp_0_0 cmp_0_0n cmp_0_0c i (IntKind.wrap IntKind.i64 (j + 1))
 (Heap.setN (Heap.setN h b_3 (o + Int.toNat i) [int IntKind.i64 n]) b_4 (o_1 + Int.toNat (IntKind.wrap IntKind.i64 (i - 1))) [int IntKind.i64 n_1]) K)))))
theorem L_slices_partialInsertionSortCmpFunc_int_1r (data : Option Addr) (datan : Nat) (datac : Nat) (a : Int) (b : Int) (cmp_0_0 : Option Addr) (cmp_0_0n : Nat) (cmp_0_0c : Nat) (i : Int) (j : Int) (h : Heap) (K : Value → Heap → Prop) (k : L_slices_partialInsertionSortCmpFunc_int_1T data datan datac a b cmp_0_0 cmp_0_0n cmp_0_0c i j h K) : L_slices_partialInsertionSortCmpFunc_int_1 data datan datac a b cmp_0_0 cmp_0_0n cmp_0_0c i j h K :=
 LoopAt.of_ev (cs := []) Try.func142 mixed (fun junk => by kernel_rfl) k
def L_slices_partialInsertionSortCmpFunc_int_2T (data : Option Addr) (datan : Nat) (datac : Nat) (a : Int) (b : Int) (cmp_0_0 : Option Addr) (cmp_0_0n : Nat) (cmp_0_0c : Nat) (i : Int) (j : Int) (j1 : Int) (h : Heap) (K : Value → Heap → Prop) : Prop :=
 Br (decide (j1 ≥ 1))
 (0 ≤ j1 ∧
 j1 < (↑datan : Int) ∧
 withAddr data fun (b_1 o : Nat) =>
 ∃ (n : Int),
 Heap.cell h b_1 (o + Int.toNat j1) = some (int IntKind.i64 n) ∧
 0 ≤ IntKind.wrap IntKind.i64 (j1 - 1) ∧
 IntKind.wrap IntKind.i64 (j1 - 1) < (↑datan : Int) ∧
 withAddr data fun (b_2 o : Nat) =>
 ∃ (n_1 : Int),
 Heap.cell h b_2 (o + Int.toNat (IntKind.wrap IntKind.i64 (j1 - 1))) = some (int IntKind.i64 n_1) ∧
 CallA Try.prog fn_split_by_order [agg #[slice cmp_0_0 cmp_0_0n cmp_0_0c], int IntKind.i64 n, int IntKind.i64 n_1] h fun (v : Value) (h : Heap) =>
 ∃ (n : Int),
 v = int IntKind.i64 n ∧
 Br (!decide (n < 0))
 (Br (decide (IntKind.wrap IntKind.i64 (b - i) ≥ 2)) (L_slices_partialInsertionSortCmpFunc_int_3 data datan datac a b cmp_0_0 cmp_0_0n cmp_0_0c i j (IntKind.wrap IntKind.i64 (i + 1)) h K)
 (L_slices_partialInsertionSortCmpFunc_int_0 data datan datac a b cmp_0_0 cmp_0_0n cmp_0_0c i (IntKind.wrap IntKind.i64 (j + 1)) h K))
 (0 ≤ IntKind.wrap IntKind.i64 (j1 - 1) ∧
 IntKind.wrap IntKind.i64 (j1 - 1) < (↑datan : Int) ∧
 withAddr data fun (b_3 o : Nat) =>
 ∃ (n : Int),
 Heap.cell h b_3 (o + Int.toNat (IntKind.wrap IntKind.i64 (j1 - 1))) = some (int IntKind.i64 n) ∧
 0 ≤ j1 ∧
 j1 < (↑datan : Int) ∧
 withAddr data fun (b_4 o : Nat) =>
 ∃ (n_2 : Int),
 Heap.cell h b_4 (o + Int.toNat j1) = some (int IntKind.i64 n_2) ∧
 0 ≤ j1 ∧
 j1 < (↑datan : Int) ∧
 withAddr data fun (b_5 o : Nat) =>
 Heap.canSt h b_5 (o + Int.toNat j1) 1 ∧
 0 ≤ IntKind.wrap IntKind.i64 (j1 - 1) ∧
 IntKind.wrap IntKind.i64 (j1 - 1) < (↑datan : Int) ∧
 withAddr data fun (b_6 o_1 : Nat) =>
 Heap.canSt (Heap.setN h b_5 (o + Int.toNat j1) [int IntKind.i64 n]) b_6 (o_1 + Int.toNat (IntKind.wrap IntKind.i64 (j1 - 1))) 1 ∧
 L_slices_partialInsertionSortCmpFunc_int_2 data datan datac a b cmp_0_0 cmp_0_0n cmp_0_0c i j (IntKind.wrap IntKind.i64 (j1 - 1))
 (Heap.setN (Heap.setN h b_5 (o + Int.toNat j1) [int IntKind.i64 n]) b_6 (o_1 + Int.toNat (IntKind.wrap IntKind.i64 (j1 - 1))) [int IntKind.i64 n_2]) K))
 (Br (decide (IntKind.wrap IntKind.i64 (b - i) ≥ 2)) (L_slices_partialInsertionSortCmpFunc_int_3 data datan datac a b cmp_0_0 cmp_0_0n cmp_0_0c i j (IntKind.wrap IntKind.i64 (i + 1)) h K)
 (L_slices_partialInsertionSortCmpFunc_int_0 data datan datac a b cmp_0_0 cmp_0_0n cmp_0_0c i (IntKind.wrap IntKind.i64 (j + 1)) h K))
theorem L_slices_partialInsertionSortCmpFunc_int_2r (data : Option Addr) (datan : Nat) (datac : Nat) (a : Int) (b : Int) (cmp_0_0 : Option Addr) (cmp_0_0n : Nat) (cmp_0_0c : Nat) (i : Int) (j : Int) (j1 : Int) (h : Heap) (K : Value → Heap → Prop) (k : L_slices_partialInsertionSortCmpFunc_int_2T data datan datac a b cmp_0_0 cmp_0_0n cmp_0_0c i j j1 h K) : L_slices_partialInsertionSortCmpFunc_int_2 data datan datac a b cmp_0_0 cmp_0_0n cmp_0_0c i j j1 h K :=
 LoopAt.of_ev (cs := []) Try.func142 mixed (fun junk => by kernel_rfl) k
def L_slices_partialInsertionSortCmpFunc_int_3T (data : Option Addr) (datan : Nat) (datac : Nat) (a : Int) (b : Int) (cmp_0_0 : Option Addr) (cmp_0_0n : Nat) (cmp_0_0c : Nat) (i : Int) (j : Int) (j1 : Int) (h : Heap) (K : Value → Heap → Prop) : Prop :=
 Br (decide (j1 < b))
 (0 ≤ j1 ∧
 j1 < (↑datan : Int) ∧
 withAddr data fun (b_1 o : Nat) =>
 ∃ (n : Int),
 Heap.cell h b_1 (o + Int.toNat j1) = some (int IntKind.i64 n) ∧
 0 ≤ IntKind.wrap IntKind.i64 (j1 - 1) ∧
 IntKind.wrap IntKind.i64 (j1 - 1) < (↑datan : Int) ∧
 withAddr data fun (b_2 o : Nat) =>
 ∃ (n_1 : Int),
 Heap.cell h b_2 (o + Int.toNat (IntKind.wrap IntKind.i64 (j1 - 1))) = some (int IntKind.i64 n_1) ∧
 CallA Try.prog fn_split_by_order [agg #[slice cmp_0_0 cmp_0_0n cmp_0_0c], int IntKind.i64 n, int IntKind.i64 n_1] h fun (v : Value) (h : Heap) =>
 ∃ (n : Int),
 v = int IntKind.i64 n ∧
 Br (!decide (n < 0)) (L_slices_partialInsertionSortCmpFunc_int_0 data datan datac a b cmp_0_0 cmp_0_0n cmp_0_0c i (IntKind.wrap IntKind.i64 (j + 1)) h K)
 (0 ≤ IntKind.wrap IntKind.i64 (j1 - 1) ∧
 IntKind.wrap IntKind.i64 (j1 - 1) < (↑datan : Int) ∧
 withAddr data fun (b_3 o : Nat) =>
 ∃ (n : Int),
 Heap.cell h b_3 (o + Int.toNat (IntKind.wrap IntKind.i64 (j1 - 1))) = some (int IntKind.i64 n) ∧
 0 ≤ j1 ∧
 j1 < (↑datan : Int) ∧
 withAddr data fun (b_4 o : Nat) =>
 ∃ (n_2 : Int),
 Heap.cell h b_4 (o + Int.toNat j1) = some (int IntKind.i64 n_2) ∧
 0 ≤ j1 ∧
 j1 < (↑datan : Int) ∧
 withAddr data fun (b_5 o : Nat) =>
 Heap.canSt h b_5 (o + Int.toNat j1) 1 ∧
 0 ≤ IntKind.wrap IntKind.i64 (j1 - 1) ∧
 IntKind.wrap IntKind.i64 (j1 - 1) < (↑datan : Int) ∧
 withAddr data fun (b_6 o_1 : Nat) =>
 Heap.canSt (Heap.setN h b_5 (o + Int.toNat j1) [int IntKind.i64 n]) b_6 (o_1 + Int.toNat (IntKind.wrap IntKind.i64 (j1 - 1))) 1 ∧
 L_slices_partialInsertionSortCmpFunc_int_3 data datan datac a b cmp_0_0 cmp_0_0n cmp_0_0c i j (IntKind.wrap IntKind.i64 (j1 + 1))
 (Heap.setN (Heap.setN h b_5 (o + Int.toNat j1) [int IntKind.i64 n]) b_6 (o_1 + Int.toNat (IntKind.wrap IntKind.i64 (j1 - 1))) [int IntKind.i64 n_2]) K))
 (L_slices_partialInsertionSortCmpFunc_int_0 data datan datac a b cmp_0_0 cmp_0_0n cmp_0_0c i (IntKind.wrap IntKind.i64 (j + 1)) h K)
theorem L_slices_partialInsertionSortCmpFunc_int_3r (data : Option Addr) (datan : Nat) (datac : Nat) (a : Int) (b : Int) (cmp_0_0 : Option Addr) (cmp_0_0n : Nat) (cmp_0_0c : Nat) (i : Int) (j : Int) (j1 : Int) (h : Heap) (K : Value → Heap → Prop) (k : L_slices_partialInsertionSortCmpFunc_int_3T data datan datac a b cmp_0_0 cmp_0_0n cmp_0_0c i j j1 h K) : L_slices_partialInsertionSortCmpFunc_int_3 data datan datac a b cmp_0_0 cmp_0_0n cmp_0_0c i j j1 h K :=
 LoopAt.of_ev (cs := []) Try.func142 mixed (fun junk => by kernel_rfl) k
def F_slices_partialInsertionSortCmpFunc_intT (data : Option Addr) (datan : Nat) (datac : Nat) (a : Int) (b : Int) (cmp_0 : Option Addr) (cmp_0n : Nat) (cmp_0c : Nat) (h : Heap) (K : Value → Heap → Prop) : Prop :=
 L_slices_partialInsertionSortCmpFunc_int_0 data datan datac a b cmp_0 cmp_0n cmp_0c (IntKind.wrap IntKind.i64 (a + 1)) 0 h K
theorem F_slices_partialInsertionSortCmpFunc_int (data : Option Addr) (datan : Nat) (datac : Nat) (a : Int) (b : Int) (cmp_0 : Option Addr) (cmp_0n : Nat) (cmp_0c : Nat) (h : Heap) (K : Value → Heap → Prop) (k : F_slices_partialInsertionSortCmpFunc_intT data datan datac a b cmp_0 cmp_0n cmp_0c h K) : CallA Try.prog fn_slices_partialInsertionSortCmpFunc_int [slice data datan datac, int IntKind.i64 a, int IntKind.i64 b, func (Fn.func fn_split_by_order) #[agg #[slice cmp_0 cmp_0n cmp_0c]] #[]] h K :=
 CallA.of_ev (cs := []) Try.func142 (by kernel_rfl) (fun _ _ => Try.call142 _ _) mixed (by kernel_rfl) (by kernel_rfl) k
end Go.Proofs.Ytghdadniddoboaa

namespace Go.Proofs.Ytghdadniddoboaa
open Go Go.Sy Go.Value
set_option linter.unusedVariables false
set_option maxRecDepth 100000
def L_slices_insertionSortCmpFunc_int_0 (data : Option Addr) (datan : Nat) (datac : Nat) (a : Int) (b : Int) (cmp_0_0 : Option Addr) (cmp_0_0n : Nat) (cmp_0_0c : Nat) (i : Int) (h : Heap) (K : Value → Heap → Prop) : Prop :=
 LoopAt Try.prog Try.f137 137 (loopK Try.f137 0) (sp 53 [(0, slice data datan datac), (1, int IntKind.i64 a), (2, int IntKind.i64 b), (3, func (Fn.func fn_split_by_order) #[agg #[slice cmp_0_0 cmp_0_0n cmp_0_0c]] #[]), (8, int IntKind.i64 i)]) h K
def L_slices_insertionSortCmpFunc_int_1 (data : Option Addr) (datan : Nat) (datac : Nat) (a : Int) (b : Int) (cmp_0_0 : Option Addr) (cmp_0_0n : Nat) (cmp_0_0c : Nat) (i : Int) (j : Int) (h : Heap) (K : Value → Heap → Prop) : Prop :=
 LoopAt Try.prog Try.f137 137 (loopK Try.f137 1) (sp 53 [(0, slice data datan datac), (1, int IntKind.i64 a), (2, int IntKind.i64 b), (3, func (Fn.func fn_split_by_order) #[agg #[slice cmp_0_0 cmp_0_0n cmp_0_0c]] #[]), (8, int IntKind.i64 i), (9, int IntKind.i64 j)]) h K
def L_slices_insertionSortCmpFunc_int_0T (data : Option Addr) (datan : Nat) (datac : Nat) (a : Int) (b : Int) (cmp_0_0 : Option Addr) (cmp_0_0n : Nat) (cmp_0_0c : Nat) (i : Int) (h : Heap) (K : Value → Heap → Prop) : Prop :=
 Br (decide (i < b)) (L_slices_insertionSortCmpFunc_int_1 data datan datac a b cmp_0_0 cmp_0_0n cmp_0_0c i i h K) (Ret h K (tuple #[]))
theorem L_slices_insertionSortCmpFunc_int_0r (data : Option Addr) (datan : Nat) (datac : Nat) (a : Int) (b : Int) (cmp_0_0 : Option Addr) (cmp_0_0n : Nat) (cmp_0_0c : Nat) (i : Int) (h : Heap) (K : Value → Heap → Prop) (k : L_slices_insertionSortCmpFunc_int_0T data datan datac a b cmp_0_0 cmp_0_0n cmp_0_0c i h K) : L_slices_insertionSortCmpFunc_int_0 data datan datac a b cmp_0_0 cmp_0_0n cmp_0_0c i h K :=
 LoopAt.of_ev (cs := []) Try.func137 mixed (fun junk => by kernel_rfl) k
def L_slices_insertionSortCmpFunc_int_1T (data : Option Addr) (datan : Nat) (datac : Nat) (a : Int) (b : Int) (cmp_0_0 : Option Addr) (cmp_0_0n : Nat) (cmp_0_0c : Nat) (i : Int) (j : Int) (h : Heap) (K : Value → Heap → Prop) : Prop :=
 Br (decide (j > a))
 (0 ≤ j ∧
 j < (↑datan : Int) ∧
 withAddr data fun (b_1 o : Nat) =>
 ∃ (n : Int),
 Heap.cell h b_1 (o + Int.toNat j) = some (int IntKind.i64 n) ∧
 0 ≤ IntKind.wrap IntKind.i64 (j - 1) ∧
 IntKind.wrap IntKind.i64 (j - 1) < (↑datan : Int) ∧
 withAddr data fun (b_2 o : Nat) =>
 ∃ (n_1 : Int),
 Heap.cell h b_2 (o + Int.toNat (IntKind.wrap IntKind.i64 (j - 1))) = some (int IntKind.i64 n_1) ∧
 CallA Try.prog fn_split_by_order [agg #[slice cmp_0_0 cmp_0_0n cmp_0_0c], int IntKind.i64 n, int IntKind.i64 n_1] h fun (v : Value) (h : Heap) =>
 ∃ (n : Int),
 v = int IntKind.i64 n ∧
 Br (decide (n < 0))
 (0 ≤ IntKind.wrap IntKind.i64 (j - 1) ∧
 IntKind.wrap IntKind.i64 (j - 1) < (↑datan : Int) ∧
 withAddr data fun (b_3 o : Nat) =>
 ∃ (n : Int),
 Heap.cell h b_3 (o + Int.toNat (IntKind.wrap IntKind.i64 (j - 1))) = some (int IntKind.i64 n) ∧
 0 ≤ j ∧
 j < (↑datan : Int) ∧
 withAddr data fun (b_4 o : Nat) =>
 ∃ (n_2 : Int),
 Heap.cell h b_4 (o + Int.toNat j) = some (int IntKind.i64 n_2) ∧
 0 ≤ j ∧
 j < (↑datan : Int) ∧
 withAddr data fun (b_5 o : Nat) =>
 Heap.canSt h b_5 (o + Int.toNat j) 1 ∧
 0 ≤ IntKind.wrap IntKind.i64 (j - 1) ∧
 IntKind.wrap IntKind.i64 (j - 1) < (↑datan : Int) ∧
 withAddr data fun (b_6 o_1 : Nat) =>
 Heap.canSt (Heap.setN h b_5 (o + Int.toNat j) [int IntKind.i64 n]) b_6 (o_1 + Int.toNat (IntKind.wrap IntKind.i64 (j - 1))) 1 ∧
 L_slices_insertionSortCmpFunc_int_1 data datan datac a b cmp_0_0 cmp_0_0n cmp_0_0c i (IntKind.wrap IntKind.i64 (j - 1))
 (Heap.setN (Heap.setN h b_5 (o + Int.toNat j) [int IntKind.i64 n]) b_6 (o_1 + Int.toNat (IntKind.wrap IntKind.i64 (j - 1))) [int IntKind.i64 n_2]) K)
 (L_slices_insertionSortCmpFunc_int_0 data datan datac a b cmp_0_0 cmp_0_0n cmp_0_0c (IntKind.wrap IntKind.i64 (i + 1)) h K))
 (L_slices_insertionSortCmpFunc_int_0 data datan datac a b cmp_0_0 cmp_0_0n cmp_0_0c (IntKind.wrap IntKind.i64 (i + 1)) h K)
theorem L_slices_insertionSortCmpFunc_int_1r (data : Option Addr) (datan : Nat) (datac : Nat) (a : Int) (b : Int) (cmp_0_0 : Option Addr) (cmp_0_0n : Nat) (cmp_0_0c : Nat) (i : Int) (j : Int) (h : Heap) (K : Value → Heap → Prop) (k : L_slices_insertionSortCmpFunc_int_1T data datan datac a b cmp_0_0 cmp_0_0n cmp_0_0c i j h K) : L_slices_insertionSortCmpFunc_int_1 data datan datac a b cmp_0_0 cmp_0_0n cmp_0_0c i j h K :=
 LoopAt.of_ev (cs := []) Try.func137 mixed (fun junk => by kernel_rfl) k
def F_slices_insertionSortCmpFunc_intT (data : Option Addr) (datan : Nat) (datac : Nat) (a : Int) (b : Int) (cmp_0 : Option Addr) (cmp_0n : Nat) (cmp_0c : Nat) (h : Heap) (K : Value → Heap → Prop) : Prop :=
 L_slices_insertionSortCmpFunc_int_0 data datan datac a b cmp_0 cmp_0n cmp_0c (IntKind.wrap IntKind.i64 (a + 1)) h K
theorem F_slices_insertionSortCmpFunc_int (data : Option Addr) (datan : Nat) (datac : Nat) (a : Int) (b : Int) (cmp_0 : Option Addr) (cmp_0n : Nat) (cmp_0c : Nat) (h : Heap) (K : Value → Heap → Prop) (k : F_slices_insertionSortCmpFunc_intT data datan datac a b cmp_0 cmp_0n cmp_0c h K) : CallA Try.prog fn_slices_insertionSortCmpFunc_int [slice data datan datac, int IntKind.i64 a, int IntKind.i64 b, func (Fn.func fn_split_by_order) #[agg #[slice cmp_0 cmp_0n cmp_0c]] #[]] h K :=
 CallA.of_ev (cs := []) Try.func137 (by kernel_rfl) (fun _ _ => Try.call137 _ _) mixed (by kernel_rfl) (by kernel_rfl) k
def L_slices_siftDownCmpFunc_int_0 (data : Option Addr) (datan : Nat) (datac : Nat) (hi : Int) (first : Int) (cmp_0_0 : Option Addr) (cmp_0_0n : Nat) (cmp_0_0c : Nat) (root : Int) (h : Heap) (K : Value → Heap → Prop) : Prop :=
 LoopAt Try.prog Try.f164 164 (loopK Try.f164 0) (sp 82 [(0, slice data datan datac), (2, int IntKind.i64 hi), (3, int IntKind.i64 first), (4, func (Fn.func fn_split_by_order) #[agg #[slice cmp_0_0 cmp_0_0n cmp_0_0c]] #[]), (10, int IntKind.i64 root)]) h K
def L_slices_siftDownCmpFunc_int_0T (data : Option Addr) (datan : Nat) (datac : Nat) (hi : Int) (first : Int) (cmp_0_0 : Option Addr) (cmp_0_0n : Nat) (cmp_0_0c : Nat) (root : Int) (h : Heap) (K : Value → Heap → Prop) : Prop :=
 Br (decide (IntKind.wrap IntKind.i64 (IntKind.wrap IntKind.i64 (2 * root) + 1) ≥ hi)) (Ret h K (tuple #[]))
 (Br (decide (IntKind.wrap IntKind.i64 (IntKind.wrap IntKind.i64 (IntKind.wrap IntKind.i64 (2 * root) + 1) + 1) < hi))
 (0 ≤ IntKind.wrap IntKind.i64 (first + IntKind.wrap IntKind.i64 (IntKind.wrap IntKind.i64 (2 * root) + 1)) ∧
 IntKind.wrap IntKind.i64 (first + IntKind.wrap IntKind.i64 (IntKind.wrap IntKind.i64 (2 * root) + 1)) < (↑datan : Int) ∧
 withAddr data fun (b o : Nat) =>
 ∃ (n : Int),
 Heap.cell h b (o + Int.toNat (IntKind.wrap IntKind.i64 (first + IntKind.wrap IntKind.i64 (IntKind.wrap IntKind.i64 (2 * root) + 1)))) = some (int IntKind.i64 n) ∧
 0 ≤ IntKind.wrap IntKind.i64 (IntKind.wrap IntKind.i64 (first + IntKind.wrap IntKind.i64 (IntKind.wrap IntKind.i64 (2 * root) + 1)) + 1) ∧
 IntKind.wrap IntKind.i64 (IntKind.wrap IntKind.i64 (first + IntKind.wrap IntKind.i64 (IntKind.wrap IntKind.i64 (2 * root) + 1)) + 1) < (↑datan : Int) ∧
 withAddr data fun (b o : Nat) =>
 ∃ (n_1 : Int),
 Heap.cell h b (o + Int.toNat (IntKind.wrap IntKind.i64 (IntKind.wrap IntKind.i64 (first + IntKind.wrap IntKind.i64 (IntKind.wrap IntKind.i64 (2 * root) + 1)) + 1))) = some (int IntKind.i64 n_1) ∧
 CallA Try.prog fn_split_by_order [agg #[slice cmp_0_0 cmp_0_0n cmp_0_0c], int IntKind.i64 n, int IntKind.i64 n_1] h fun (v : Value) (h : Heap) =>
 ∃ (n : Int),
 v = int IntKind.i64 n ∧
 Br (decide (n < 0))
 (0 ≤ IntKind.wrap IntKind.i64 (first + root) ∧
 IntKind.wrap IntKind.i64 (first + root) < (↑datan : Int) ∧
 withAddr data fun (b o : Nat) =>
 ∃ (n : Int),
 Heap.cell h b (o + Int.toNat (IntKind.wrap IntKind.i64 (first + root))) = some (int IntKind.i64 n) ∧
 0 ≤ IntKind.wrap IntKind.i64 (first + IntKind.wrap IntKind.i64 (IntKind.wrap IntKind.i64 (IntKind.wrap IntKind.i64 (2 * root) + 1) + 1)) ∧
 IntKind.wrap IntKind.i64 (first + IntKind.wrap IntKind.i64 (IntKind.wrap IntKind.i64 (IntKind.wrap IntKind.i64 (2 * root) + 1) + 1)) < (↑datan : Int) ∧
 withAddr data fun (b o : Nat) =>
 ∃ (n_2 : Int),
 Heap.cell h b (o + Int.toNat (IntKind.wrap IntKind.i64 (first + IntKind.wrap IntKind.i64 (IntKind.wrap IntKind.i64 (IntKind.wrap IntKind.i64 (2 * root) + 1) + 1)))) =
 some (int IntKind.i64 n_2) ∧
 CallA Try.prog fn_split_by_order [agg #[slice cmp_0_0 cmp_0_0n cmp_0_0c], int IntKind.i64 n, int IntKind.i64 n_2] h fun (v : Value) (h : Heap) =>
 ∃ (n : Int),
 v = int IntKind.i64 n ∧
 Br (!decide (n < 0)) (Ret h K (tuple #[]))
 (0 ≤ IntKind.wrap IntKind.i64 (first + IntKind.wrap IntKind.i64 (IntKind.wrap IntKind.i64 (IntKind.wrap IntKind.i64 (2 * root) + 1) + 1)) ∧
 IntKind.wrap IntKind.i64 (first + IntKind.wrap IntKind.i64 (IntKind.wrap IntKind.i64 (IntKind.wrap IntKind.i64 (2 * root) + 1) + 1)) < (↑datan : Int) ∧
 withAddr data fun (b o : Nat) =>
 ∃ (n : Int),
 Heap.cell h b
 (o +
 Int.toNat
 (IntKind.wrap IntKind.i64 (first + IntKind.wrap IntKind.i64 (IntKind.wrap IntKind.i64 (IntKind.wrap IntKind.i64 (2 * root) + 1) + 1)))) =
 some (int IntKind.i64 n) ∧
 0 ≤ IntKind.wrap IntKind.i64 (first + root) ∧
 IntKind.wrap IntKind.i64 (first + root) < (↑datan : Int) ∧
 withAddr data fun (b o : Nat) =>
 ∃ (n_3 : Int),
 Heap.cell h b (o + Int.toNat (IntKind.wrap IntKind.i64 (first + root))) = some (int IntKind.i64 n_3) ∧
 0 ≤ IntKind.wrap IntKind.i64 (first + root) ∧
 IntKind.wrap IntKind.i64 (first + root) < (↑datan : Int) ∧
 withAddr data fun (b o : Nat) =>
 Heap.canSt h b (o + Int.toNat (IntKind.wrap IntKind.i64 (first + root))) 1 ∧
 0 ≤
 IntKind.wrap IntKind.i64
 (first + IntKind.wrap IntKind.i64 (IntKind.wrap IntKind.i64 (IntKind.wrap IntKind.i64 (2 * root) + 1) + 1)) ∧
 IntKind.wrap IntKind.i64
 (first + IntKind.wrap IntKind.i64 (IntKind.wrap IntKind.i64 (IntKind.wrap IntKind.i64 (2 * root) + 1) + 1)) <
 (↑datan : Int) ∧
 withAddr data fun (b_1 o_1 : Nat) =>
 Heap.canSt (Heap.setN h b (o + Int.toNat (IntKind.wrap IntKind.i64 (first + root))) [int IntKind.i64 n]) b_1
 (o_1 +
 Int.toNat
 (IntKind.wrap IntKind.i64
 (first + IntKind.wrap IntKind.i64 (IntKind.wrap IntKind.i64 (IntKind.wrap IntKind.i64 (2 * root) + 1) + 1))))
 1 ∧
 L_slices_siftDownCmpFunc_int_0 data datan datac hi first cmp_0_0 cmp_0_0n cmp_0_0c
 (IntKind.wrap IntKind.i64 (IntKind.wrap IntKind.i64 (IntKind.wrap IntKind.i64 (2 * root) + 1) + 1))
 (Heap.setN (Heap.setN h b (o + Int.toNat (IntKind.wrap IntKind.i64 (first + root))) [int IntKind.i64 n]) b_1
 (o_1 +
 Int.toNat
 (IntKind.wrap IntKind.i64
 (first + IntKind.wrap IntKind.i64 (IntKind.wrap IntKind.i64 (IntKind.wrap IntKind.i64 (2 * root) + 1) + 1))))
 [int IntKind.i64 n_3])
 K))
 (0 ≤ IntKind.wrap IntKind.i64 (first + root) ∧
 IntKind.wrap IntKind.i64 (first + root) < (↑datan : Int) ∧
 withAddr data fun (b o : Nat) =>
 ∃ (n : Int),
 Heap.cell h b (o + Int.toNat (IntKind.wrap IntKind.i64 (first + root))) = some (int IntKind.i64 n) ∧
 0 ≤ IntKind.wrap IntKind.i64 (first + IntKind.wrap IntKind.i64 (IntKind.wrap IntKind.i64 (2 * root) + 1)) ∧
 IntKind.wrap IntKind.i64 (first + IntKind.wrap IntKind.i64 (IntKind.wrap IntKind.i64 (2 * root) + 1)) < (↑datan : Int) ∧
 withAddr data fun (b o : Nat) =>
 ∃ (n_2 : Int),
 Heap.cell h b (o + Int.toNat (IntKind.wrap IntKind.i64 (first + IntKind.wrap IntKind.i64 (IntKind.wrap IntKind.i64 (2 * root) + 1)))) = some (int IntKind.i64 n_2) ∧
 CallA Try.prog fn_split_by_order [agg #[slice cmp_0_0 cmp_0_0n cmp_0_0c], int IntKind.i64 n, int IntKind.i64 n_2] h fun (v : Value) (h : Heap) =>
 ∃ (n : Int),
 v = int IntKind.i64 n ∧
 Br (!decide (n < 0)) (Ret h K (tuple #[]))
 (0 ≤ IntKind.wrap IntKind.i64 (first + IntKind.wrap IntKind.i64 (IntKind.wrap IntKind.i64 (2 * root) + 1)) ∧
 IntKind.wrap IntKind.i64 (first + IntKind.wrap IntKind.i64 (IntKind.wrap IntKind.i64 (2 * root) + 1)) < (↑datan : Int) ∧
 withAddr data fun (b o : Nat) =>
 ∃ (n : Int),
 Heap.cell h b (o + Int.toNat (IntKind.wrap IntKind.i64 (first + IntKind.wrap IntKind.i64 (IntKind.wrap IntKind.i64 (2 * root) + 1)))) =
 some (int IntKind.i64 n) ∧
 0 ≤ IntKind.wrap IntKind.i64 (first + root) ∧
 IntKind.wrap IntKind.i64 (first + root) < (↑datan : Int) ∧
 withAddr data fun (b o : Nat) =>
 ∃ (n_3 : Int),
 Heap.cell h b (o + Int.toNat (IntKind.wrap IntKind.i64 (first + root))) = some (int IntKind.i64 n_3) ∧
 0 ≤ IntKind.wrap IntKind.i64 (first + root) ∧
 IntKind.wrap IntKind.i64 (first + root) < (↑datan : Int) ∧
 withAddr data fun (b o : Nat) =>
 Heap.canSt h b (o + Int.toNat (IntKind.wrap IntKind.i64 (first + root))) 1 ∧
 0 ≤ IntKind.wrap IntKind.i64 (first + IntKind.wrap IntKind.i64 (IntKind.wrap IntKind.i64 (2 * root) + 1)) ∧
 IntKind.wrap IntKind.i64 (first + IntKind.wrap IntKind.i64 (IntKind.wrap IntKind.i64 (2 * root) + 1)) < (↑datan : Int) ∧
 withAddr data fun (b_1 o_1 : Nat) =>
 Heap.canSt (Heap.setN h b (o + Int.toNat (IntKind.wrap IntKind.i64 (first + root))) [int IntKind.i64 n]) b_1
 (o_1 + Int.toNat (IntKind.wrap IntKind.i64 (first + IntKind.wrap IntKind.i64 (IntKind.wrap IntKind.i64 (2 * root) + 1))))
 1 ∧
 L_slices_siftDownCmpFunc_int_0 data datan datac hi first cmp_0_0 cmp_0_0n cmp_0_0c
 (IntKind.wrap IntKind.i64 (IntKind.wrap IntKind.i64 (2 * root) + 1))
 (Heap.setN (Heap.setN h b (o + Int.toNat (IntKind.wrap IntKind.i64 (first + root))) [int IntKind.i64 n]) b_1
 (o_1 +
 Int.toNat (IntKind.wrap IntKind.i64 (first + IntKind.wrap IntKind.i64 (IntKind.wrap IntKind.i64 (2 * root) + 1))))
 [int IntKind.i64 n_3])
 K)))
 (0 ≤ IntKind.wrap IntKind.i64 (first + root) ∧
 IntKind.wrap IntKind.i64 (first + root) < (↑datan : Int) ∧
 withAddr data fun (b o : Nat) =>
 ∃ (n : Int),
 Heap.cell h b (o + Int.toNat (IntKind.wrap IntKind.i64 (first + root))) = some (int IntKind.i64 n) ∧
 0 ≤ IntKind.wrap IntKind.i64 (first + IntKind.wrap IntKind.i64 (IntKind.wrap IntKind.i64 (2 * root) + 1)) ∧
 IntKind.wrap IntKind.i64 (first + IntKind.wrap IntKind.i64 (IntKind.wrap IntKind.i64 (2 * root) + 1)) < (↑datan : Int) ∧
 withAddr data fun (b o : Nat) =>
 ∃ (n_1 : Int),
 Heap.cell h b (o + Int.toNat (IntKind.wrap IntKind.i64 (first + IntKind.wrap IntKind.i64 (IntKind.wrap IntKind.i64 (2 * root) + 1)))) = some (int IntKind.i64 n_1) ∧
 CallA Try.prog fn_split_by_order [agg #[slice cmp_0_0 cmp_0_0n cmp_0_0c], int IntKind.i64 n, int IntKind.i64 n_1] h fun (v : Value) (h : Heap) =>
 ∃ (n : Int),
 v = int IntKind.i64 n ∧
 Br (!decide (n < 0)) (Ret h K (tuple #[]))
 (0 ≤ IntKind.wrap IntKind.i64 (first + IntKind.wrap IntKind.i64 (IntKind.wrap IntKind.i64 (2 * root) + 1)) ∧
 IntKind.wrap IntKind.i64 (first + IntKind.wrap IntKind.i64 (IntKind.wrap IntKind.i64 (2 * root) + 1)) < (↑datan : Int) ∧
 withAddr data fun (b o : Nat) =>
 ∃ (n : Int),
 Heap.cell h b (o + Int.toNat (IntKind.wrap IntKind.i64 (first + IntKind.wrap IntKind.i64 (IntKind.wrap IntKind.i64 (2 * root) + 1)))) = some (int IntKind.i64 n) ∧
 0 ≤ IntKind.wrap IntKind.i64 (first + root) ∧
 IntKind.wrap IntKind.i64 (first + root) < (↑datan : Int) ∧
 withAddr data fun (b o : Nat) =>
 ∃ (n_2 : Int),
 Heap.cell h b (o + Int.toNat (IntKind.wrap IntKind.i64 (first + root))) = some (int IntKind.i64 n_2) ∧
 0 ≤ IntKind.wrap IntKind.i64 (first + root) ∧
 IntKind.wrap IntKind.i64 (first + root) < (↑datan : Int) ∧
 withAddr data fun (b o : Nat) =>
 Heap.canSt h b (o + Int.toNat (IntKind.wrap IntKind.i64 (first + root))) 1 ∧
 0 ≤ IntKind.wrap IntKind.i64 (first + IntKind.wrap IntKind.i64 (IntKind.wrap IntKind.i64 (2 * root) + 1)) ∧
 IntKind.wrap IntKind.i64 (first + IntKind.wrap IntKind.i64 (IntKind.wrap IntKind.i64 (2 * root) + 1)) < (↑datan : Int) ∧
 withAddr data fun (b_1 o_1 : Nat) =>
 Heap.canSt (Heap.setN h b (o + Int.toNat (IntKind.wrap IntKind.i64 (first + root))) [int IntKind.i64 n]) b_1
 (o_1 + Int.toNat (IntKind.wrap IntKind.i64 (first + IntKind.wrap IntKind.i64 (IntKind.wrap IntKind.i64 (2 * root) + 1)))) 1 ∧
 L_slices_siftDownCmpFunc_int_0 data datan datac hi first cmp_0_0 cmp_0_0n cmp_0_0c (IntKind.wrap IntKind.i64 (IntKind.wrap IntKind.i64 (2 * root) + 1))
 (Heap.setN (Heap.setN h b (o + Int.toNat (IntKind.wrap IntKind.i64 (first + root))) [int IntKind.i64 n]) b_1
 (o_1 + Int.toNat (IntKind.wrap IntKind.i64 (first + IntKind.wrap IntKind.i64 (IntKind.wrap IntKind.i64 (2 * root) + 1)))) [int IntKind.i64 n_2])
 K)))
theorem L_slices_siftDownCmpFunc_int_0r (data : Option Addr) (datan : Nat) (datac : Nat) (hi : Int) (first : Int) (cmp_0_0 : Option Addr) (cmp_0_0n : Nat) (cmp_0_0c : Nat) (root : Int) (h : Heap) (K : Value → Heap → Prop) (k : L_slices_siftDownCmpFunc_int_0T data datan datac hi first cmp_0_0 cmp_0_0n cmp_0_0c root h K) : L_slices_siftDownCmpFunc_int_0 data datan datac hi first cmp_0_0 cmp_0_0n cmp_0_0c root h K :=
 LoopAt.of_ev (cs := []) Try.func164 mixed (fun junk => by kernel_rfl) k
def F_slices_siftDownCmpFunc_intT (data : Option Addr) (datan : Nat) (datac : Nat) (lo : Int) (hi : Int) (first : Int) (cmp_0 : Option Addr) (cmp_0n : Nat) (cmp_0c : Nat) (h : Heap) (K : Value → Heap → Prop) : Prop :=
 L_slices_siftDownCmpFunc_int_0 data datan datac hi first cmp_0 cmp_0n cmp_0c lo h K
theorem F_slices_siftDownCmpFunc_int (data : Option Addr) (datan : Nat) (datac : Nat) (lo : Int) (hi : Int) (first : Int) (cmp_0 : Option Addr) (cmp_0n : Nat) (cmp_0c : Nat) (h : Heap) (K : Value → Heap → Prop) (k : F_slices_siftDownCmpFunc_intT data datan datac lo hi first cmp_0 cmp_0n cmp_0c h K) : CallA Try.prog fn_slices_siftDownCmpFunc_int [slice data datan datac, int IntKind.i64 lo, int IntKind.i64 hi, int IntKind.i64 first, func (Fn.func fn_split_by_order) #[agg #[slice cmp_0 cmp_0n cmp_0c]] #[]] h K :=
 CallA.of_ev (cs := []) Try.func164 (by kernel_rfl) (fun _ _ => Try.call164 _ _) mixed (by kernel_rfl) (by kernel_rfl) k
def L_slices_heapSortCmpFunc_int_0 (data : Option Addr) (datan : Nat) (datac : Nat) (cmp_0_0 : Option Addr) (cmp_0_0n : Nat) (cmp_0_0c : Nat) (first : Int) (lo : Int) (hi : Int) (i : Int) (h : Heap) (K : Value → Heap → Prop) : Prop :=
 LoopAt Try.prog Try.f138 138 (loopK Try.f138 0) (sp 60 [(0, slice data datan datac), (3, func (Fn.func fn_split_by_order) #[agg #[slice cmp_0_0 cmp_0_0n cmp_0_0c]] #[]), (8, int IntKind.i64 first), (9, int IntKind.i64 lo), (10, int IntKind.i64 hi), (11, int IntKind.i64 i)]) h K
def L_slices_heapSortCmpFunc_int_1 (data : Option Addr) (datan : Nat) (datac : Nat) (cmp_0_0 : Option Addr) (cmp_0_0n : Nat) (cmp_0_0c : Nat) (first : Int) (lo : Int) (i : Int) (h : Heap) (K : Value → Heap → Prop) : Prop :=
 LoopAt Try.prog Try.f138 138 (loopK Try.f138 1) (sp 60 [(0, slice data datan datac), (3, func (Fn.func fn_split_by_order) #[agg #[slice cmp_0_0 cmp_0_0n cmp_0_0c]] #[]), (8, int IntKind.i64 first), (9, int IntKind.i64 lo), (12, int IntKind.i64 i)]) h K
def L_slices_heapSortCmpFunc_int_0T (data : Option Addr) (datan : Nat) (datac : Nat) (cmp_0_0 : Option Addr) (cmp_0_0n : Nat) (cmp_0_0c : Nat) (first : Int) (lo : Int) (hi : Int) (i : Int) (h : Heap) (K : Value → Heap → Prop) : Prop :=
 Br (decide (i ≥ 0))
 (CallA Try.prog fn_slices_siftDownCmpFunc_int [slice data datan datac, int IntKind.i64 i, int IntKind.i64 hi, int IntKind.i64 first, func (Fn.func fn_split_by_order) #[agg #[slice cmp_0_0 cmp_0_0n cmp_0_0c]] #[]] h fun (v : Value) (h : Heap) =>
 v = tuple #[] ∧ L_slices_heapSortCmpFunc_int_0 data datan datac cmp_0_0 cmp_0_0n cmp_0_0c first lo hi (IntKind.wrap IntKind.i64 (i - 1)) h K)
 (L_slices_heapSortCmpFunc_int_1 data datan datac cmp_0_0 cmp_0_0n cmp_0_0c first lo (IntKind.wrap IntKind.i64 (hi - 1)) h K)
theorem L_slices_heapSortCmpFunc_int_0r (data : Option Addr) (datan : Nat) (datac : Nat) (cmp_0_0 : Option Addr) (cmp_0_0n : Nat) (cmp_0_0c : Nat) (first : Int) (lo : Int) (hi : Int) (i : Int) (h : Heap) (K : Value → Heap → Prop) (k : L_slices_heapSortCmpFunc_int_0T data datan datac cmp_0_0 cmp_0_0n cmp_0_0c first lo hi i h K) : L_slices_heapSortCmpFunc_int_0 data datan datac cmp_0_0 cmp_0_0n cmp_0_0c first lo hi i h K :=
 LoopAt.of_ev (cs := []) Try.func138 mixed (fun junk => by kernel_rfl) k
def L_slices_heapSortCmpFunc_int_1T (data : Option Addr) (datan : Nat) (datac : Nat) (cmp_0_0 : Option Addr) (cmp_0_0n : Nat) (cmp_0_0c : Nat) (first : Int) (lo : Int) (i : Int) (h : Heap) (K : Value → Heap → Prop) : Prop :=
 Br (decide (i ≥ 0))
 (0 ≤ IntKind.wrap IntKind.i64 (first + i) ∧
 IntKind.wrap IntKind.i64 (first + i) < (↑datan : Int) ∧
 withAddr data fun (b o : Nat) =>
 ∃ (n : Int),
 Heap.cell h b (o + Int.toNat (IntKind.wrap IntKind.i64 (first + i))) = some (int IntKind.i64 n) ∧
 0 ≤ first ∧
 first < (↑datan : Int) ∧
 withAddr data fun (b o : Nat) =>
 ∃ (n_1 : Int),
 Heap.cell h b (o + Int.toNat first) = some (int IntKind.i64 n_1) ∧
 0 ≤ first ∧
 first < (↑datan : Int) ∧
 withAddr data fun (b o : Nat) =>
 Heap.canSt h b (o + Int.toNat first) 1 ∧
 0 ≤ IntKind.wrap IntKind.i64 (first + i) ∧
 IntKind.wrap IntKind.i64 (first + i) < (↑datan : Int) ∧
 withAddr data fun (b_1 o_1 : Nat) =>
 Heap.canSt (Heap.setN h b (o + Int.toNat first) [int IntKind.i64 n]) b_1 (o_1 + Int.toNat (IntKind.wrap IntKind.i64 (first + i))) 1 ∧
 CallA Try.prog fn_slices_siftDownCmpFunc_int [slice data datan datac, int IntKind.i64 lo, int IntKind.i64 i, int IntKind.i64 first, func (Fn.func fn_split_by_order) #[agg #[slice cmp_0_0 cmp_0_0n cmp_0_0c]] #[]]
 (Heap.setN (Heap.setN h b (o + Int.toNat first) [int IntKind.i64 n]) b_1 (o_1 + Int.toNat (IntKind.wrap IntKind.i64 (first + i))) [int IntKind.i64 n_1])
 fun (v : Value) (h : Heap) => v = tuple #[] ∧ L_slices_heapSortCmpFunc_int_1 data datan datac cmp_0_0 cmp_0_0n cmp_0_0c first lo (IntKind.wrap IntKind.i64 (i - 1)) h K)
 (Ret h K (tuple #[]))
theorem L_slices_heapSortCmpFunc_int_1r (data : Option Addr) (datan : Nat) (datac : Nat) (cmp_0_0 : Option Addr) (cmp_0_0n : Nat) (cmp_0_0c : Nat) (first : Int) (lo : Int) (i : Int) (h : Heap) (K : Value → Heap → Prop) (k : L_slices_heapSortCmpFunc_int_1T data datan datac cmp_0_0 cmp_0_0n cmp_0_0c first lo i h K) : L_slices_heapSortCmpFunc_int_1 data datan datac cmp_0_0 cmp_0_0n cmp_0_0c first lo i h K :=
 LoopAt.of_ev (cs := []) Try.func138 mixed (fun junk => by kernel_rfl) k
def F_slices_heapSortCmpFunc_intT (data : Option Addr) (datan : Nat) (datac : Nat) (a : Int) (b : Int) (cmp_0 : Option Addr) (cmp_0n : Nat) (cmp_0c : Nat) (h : Heap) (K : Value → Heap → Prop) : Prop :=
 L_slices_heapSortCmpFunc_int_0 data datan datac cmp_0 cmp_0n cmp_0c a 0 (IntKind.wrap IntKind.i64 (b - a)) (IntKind.wrap IntKind.i64 (Int.tdiv (IntKind.wrap IntKind.i64 (IntKind.wrap IntKind.i64 (b - a) - 1)) 2)) h K
theorem F_slices_heapSortCmpFunc_int (data : Option Addr) (datan : Nat) (datac : Nat) (a : Int) (b : Int) (cmp_0 : Option Addr) (cmp_0n : Nat) (cmp_0c : Nat) (h : Heap) (K : Value → Heap → Prop) (k : F_slices_heapSortCmpFunc_intT data datan datac a b cmp_0 cmp_0n cmp_0c h K) : CallA Try.prog fn_slices_heapSortCmpFunc_int [slice data datan datac, int IntKind.i64 a, int IntKind.i64 b, func (Fn.func fn_split_by_order) #[agg #[slice cmp_0 cmp_0n cmp_0c]] #[]] h K :=
 CallA.of_ev (cs := []) Try.func138 (by kernel_rfl) (fun _ _ => Try.call138 _ _) mixed (by kernel_rfl) (by kernel_rfl) k
def L_slices_reverseRangeCmpFunc_int_0 (data : Option Addr) (datan : Nat) (datac : Nat) (i : Int) (j : Int) (h : Heap) (K : Value → Heap → Prop) : Prop :=
 LoopAt Try.prog Try.f141 141 (loopK Try.f141 0) (sp 34 [(0, slice data datan datac), (8, int IntKind.i64 i), (9, int IntKind.i64 j)]) h K
def L_slices_reverseRangeCmpFunc_int_0T (data : Option Addr) (datan : Nat) (datac : Nat) (i : Int) (j : Int) (h : Heap) (K : Value → Heap → Prop) : Prop :=
 Br (decide (i < j))
 (0 ≤ j ∧
 j < (↑datan : Int) ∧
 withAddr data fun (b o : Nat) =>
 ∃ (n : Int),
 Heap.cell h b (o + Int.toNat j) = some (int IntKind.i64 n) ∧
 0 ≤ i ∧
 i < (↑datan : Int) ∧
 withAddr data fun (b o : Nat) =>
 ∃ (n_1 : Int),
 Heap.cell h b (o + Int.toNat i) = some (int IntKind.i64 n_1) ∧
 0 ≤ i ∧
 i < (↑datan : Int) ∧
 withAddr data fun (b o : Nat) =>
 Heap.canSt h b (o + Int.toNat i) 1 ∧
 0 ≤ j ∧
 j < (↑datan : Int) ∧
 withAddr data fun (b_1 o_1 : Nat) =>
 Heap.canSt (Heap.setN h b (o + Int.toNat i) [int IntKind.i64 n]) b_1 (o_1 + Int.toNat j) 1 ∧
 L_slices_reverseRangeCmpFunc_int_0 data datan datac (IntKind.wrap IntKind.i64 (i + 1)) (IntKind.wrap IntKind.i64 (j - 1))
 (Heap.setN (Heap.setN h b (o + Int.toNat i) [int IntKind.i64 n]) b_1 (o_1 + Int.toNat j) [int IntKind.i64 n_1]) K)
 (Ret h K (tuple #[]))
theorem L_slices_reverseRangeCmpFunc_int_0r (data : Option Addr) (datan : Nat) (datac : Nat) (i : Int) (j : Int) (h : Heap) (K : Value → Heap → Prop) (k : L_slices_reverseRangeCmpFunc_int_0T data datan datac i j h K) : L_slices_reverseRangeCmpFunc_int_0 data datan datac i j h K :=
 LoopAt.of_ev (cs := []) Try.func141 mixed (fun junk => by kernel_rfl) k
def F_slices_reverseRangeCmpFunc_intT (data : Option Addr) (datan : Nat) (datac : Nat) (a : Int) (b : Int) (cmp_0 : Option Addr) (cmp_0n : Nat) (cmp_0c : Nat) (h : Heap) (K : Value → Heap → Prop) : Prop :=
 L_slices_reverseRangeCmpFunc_int_0 data datan datac a (IntKind.wrap IntKind.i64 (b - 1)) h K
theorem F_slices_reverseRangeCmpFunc_int (data : Option Addr) (datan : Nat) (datac : Nat) (a : Int) (b : Int) (cmp_0 : Option Addr) (cmp_0n : Nat) (cmp_0c : Nat) (h : Heap) (K : Value → Heap → Prop) (k : F_slices_reverseRangeCmpFunc_intT data datan datac a b cmp_0 cmp_0n cmp_0c h K) : CallA Try.prog fn_slices_reverseRangeCmpFunc_int [slice data datan datac, int IntKind.i64 a, int IntKind.i64 b, func (Fn.func fn_split_by_order) #[agg #[slice cmp_0 cmp_0n cmp_0c]] #[]] h K :=
 CallA.of_ev (cs := []) Try.func141 (by kernel_rfl) (fun _ _ => Try.call141 _ _) mixed (by kernel_rfl) (by kernel_rfl) k
end Go.Proofs.Ytghdadniddoboaa

namespace Go.Proofs.Ytghdadniddoboaa
open Go Go.Sy Go.Value
set_option linter.unusedVariables false
set_option maxRecDepth 100000
def F_split_by_orderT (b_0 : Option Addr) (b_0n : Nat) (b_0c : Nat) (i : Int) (k' : Int) (h : Heap) (K : Value → Heap → Prop) : Prop :=
 newB h [slice b_0 b_0n b_0c] 96 fun (r : Nat) (h : Heap) =>
 ∃ (a : Option Addr),
 ∃ (n : Nat),
 ∃ (m : Nat),
 Heap.cell h r 0 = some (slice a n m) ∧
 0 ≤ k' ∧
 k' < (↑n : Int) ∧
 withAddr a fun (b o : Nat) =>
 ∃ (n : Int),
 Heap.cell h b (o + Int.toNat k') = some (int IntKind.i64 n) ∧
 ∃ (a : Option Addr),
 ∃ (n_1 : Nat),
 ∃ (m : Nat),
 Heap.cell h r 0 = some (slice a n_1 m) ∧
 0 ≤ i ∧
 i < (↑n_1 : Int) ∧
 withAddr a fun (b o : Nat) =>
 ∃ (n_2 : Int),
 Heap.cell h b (o + Int.toNat i) = some (int IntKind.i64 n_2) ∧
 CallA Try.prog fn_cmp_Compare_int64 [int IntKind.i64 n, int IntKind.i64 n_2] h fun (v : Value) (h : Heap) =>
 ∃ (n : Int),
 v = int IntKind.i64 n ∧
 CallA Try.prog fn_cmp_Compare_int [int IntKind.i64 i, int IntKind.i64 k'] h fun (v : Value) (h : Heap) =>
 ∃ (n_3 : Int),
 v = int IntKind.i64 n_3 ∧
 newB h [int IntKind.i64 n, int IntKind.i64 n_3] 3 fun (r : Nat) (h : Heap) =>
 CallA Try.prog fn_cmp_Or_int [slice (some { block := r, off := 0 }) 2 2] h fun (v : Value) (h : Heap) => ∃ (n : Int), v = int IntKind.i64 n ∧ Ret h K (int IntKind.i64 n)
theorem F_split_by_order (b_0 : Option Addr) (b_0n : Nat) (b_0c : Nat) (i : Int) (k' : Int) (h : Heap) (K : Value → Heap → Prop) (k : F_split_by_orderT b_0 b_0n b_0c i k' h K) : CallA Try.prog fn_split_by_order [agg #[slice b_0 b_0n b_0c], int IntKind.i64 i, int IntKind.i64 k'] h K :=
 CallA.of_ev (cs := []) Try.func58 (by kernel_rfl) (fun _ _ => Try.call58 _ _) mixed (by kernel_rfl) (by kernel_rfl) k
def L_cmp_Or_int_0 (zero : Int) (t6 : Option Addr) (t6n : Nat) (t6c : Nat) (t7 : Int) (t8 : Int) (h : Heap) (K : Value → Heap → Prop) : Prop :=
 LoopAt Try.prog Try.f106 106 (loopK Try.f106 0) (sp 18 [(3, int IntKind.i64 zero), (6, slice t6 t6n t6c), (7, int IntKind.i64 t7), (8, int IntKind.i64 t8)]) h K
def L_cmp_Or_int_0T (zero : Int) (t6 : Option Addr) (t6n : Nat) (t6c : Nat) (t7 : Int) (t8 : Int) (h : Heap) (K : Value → Heap → Prop) : Prop :=
 Br (decide (t8 < t7))
 (0 ≤ t8 ∧
 t8 < (↑t6n : Int) ∧
 withAddr t6 fun (b o : Nat) =>
 ∃ (n : Int), Heap.cell h b (o + Int.toNat t8) = some (int IntKind.i64 n) ∧ Br (n != zero) (Ret h K (int IntKind.i64 n)) (L_cmp_Or_int_0 zero t6 t6n t6c t7 (IntKind.wrap IntKind.i64 (t8 + 1)) h K))
 (Ret h K (int IntKind.i64 zero))
theorem L_cmp_Or_int_0r (zero : Int) (t6 : Option Addr) (t6n : Nat) (t6c : Nat) (t7 : Int) (t8 : Int) (h : Heap) (K : Value → Heap → Prop) (k : L_cmp_Or_int_0T zero t6 t6n t6c t7 t8 h K) : L_cmp_Or_int_0 zero t6 t6n t6c t7 t8 h K :=
 LoopAt.of_ev (cs := []) Try.func106 mixed (fun junk => by kernel_rfl) k
def F_cmp_Or_intT (vals : Option Addr) (valsn : Nat) (valsc : Nat) (h : Heap) (K : Value → Heap → Prop) : Prop :=
 L_cmp_Or_int_0 0 vals valsn valsc (↑valsn : Int) 0 h K
theorem F_cmp_Or_int (vals : Option Addr) (valsn : Nat) (valsc : Nat) (h : Heap) (K : Value → Heap → Prop) (k : F_cmp_Or_intT vals valsn valsc h K) : CallA Try.prog fn_cmp_Or_int [slice vals valsn valsc] h K :=
 CallA.of_ev (cs := []) Try.func106 (by kernel_rfl) (fun _ _ => Try.call106 _ _) mixed (by kernel_rfl) (by kernel_rfl) k
def F_cmp_Compare_int64T (x : Int) (y : Int) (h : Heap) (K : Value → Heap → Prop) : Prop :=
 CallA Try.prog fn_cmp_isNaN_int64 [int IntKind.i64 x] h fun (v : Value) (h : Heap) =>
 ∃ (b : Bool),
 v = Value.bool b ∧
 CallA Try.prog fn_cmp_isNaN_int64 [int IntKind.i64 y] h fun (v : Value) (h : Heap) =>
 ∃ (b_1 : Bool),
 v = Value.bool b_1 ∧
 Br b (Br b_1 (Ret h K (int IntKind.i64 0)) (Ret h K (int IntKind.i64 (-1))))
 (Br b_1 (Ret h K (int IntKind.i64 1)) (Br (decide (x < y)) (Ret h K (int IntKind.i64 (-1))) (Br (decide (x > y)) (Ret h K (int IntKind.i64 1)) (Ret h K (int IntKind.i64 0)))))
theorem F_cmp_Compare_int64 (x : Int) (y : Int) (h : Heap) (K : Value → Heap → Prop) (k : F_cmp_Compare_int64T x y h K) : CallA Try.prog fn_cmp_Compare_int64 [int IntKind.i64 x, int IntKind.i64 y] h K :=
 CallA.of_ev (cs := []) Try.func107 (by kernel_rfl) (fun _ _ => Try.call107 _ _) mixed (by kernel_rfl) (by kernel_rfl) k
def F_cmp_Compare_intT (x : Int) (y : Int) (h : Heap) (K : Value → Heap → Prop) : Prop :=
 CallA Try.prog fn_cmp_isNaN_int [int IntKind.i64 x] h fun (v : Value) (h : Heap) =>
 ∃ (b : Bool),
 v = Value.bool b ∧
 CallA Try.prog fn_cmp_isNaN_int [int IntKind.i64 y] h fun (v : Value) (h : Heap) =>
 ∃ (b_1 : Bool),
 v = Value.bool b_1 ∧
 Br b (Br b_1 (Ret h K (int IntKind.i64 0)) (Ret h K (int IntKind.i64 (-1))))
 (Br b_1 (Ret h K (int IntKind.i64 1)) (Br (decide (x < y)) (Ret h K (int IntKind.i64 (-1))) (Br (decide (x > y)) (Ret h K (int IntKind.i64 1)) (Ret h K (int IntKind.i64 0)))))
theorem F_cmp_Compare_int (x : Int) (y : Int) (h : Heap) (K : Value → Heap → Prop) (k : F_cmp_Compare_intT x y h K) : CallA Try.prog fn_cmp_Compare_int [int IntKind.i64 x, int IntKind.i64 y] h K :=
 CallA.of_ev (cs := []) Try.func108 (by kernel_rfl) (fun _ _ => Try.call108 _ _) mixed (by kernel_rfl) (by kernel_rfl) k
def F_cmp_isNaN_int64T (x : Int) (h : Heap) (K : Value → Heap → Prop) : Prop :=
 Ret h K (Value.bool (x != x))
theorem F_cmp_isNaN_int64 (x : Int) (h : Heap) (K : Value → Heap → Prop) (k : F_cmp_isNaN_int64T x h K) : CallA Try.prog fn_cmp_isNaN_int64 [int IntKind.i64 x] h K :=
 CallA.of_ev (cs := []) Try.func147 (by kernel_rfl) (fun _ _ => Try.call147 _ _) mixed (by kernel_rfl) (by kernel_rfl) k
def F_cmp_isNaN_intT (x : Int) (h : Heap) (K : Value → Heap → Prop) : Prop :=
 Ret h K (Value.bool (x != x))
theorem F_cmp_isNaN_int (x : Int) (h : Heap) (K : Value → Heap → Prop) (k : F_cmp_isNaN_intT x h K) : CallA Try.prog fn_cmp_isNaN_int [int IntKind.i64 x] h K :=
 CallA.of_ev (cs := []) Try.func148 (by kernel_rfl) (fun _ _ => Try.call148 _ _) mixed (by kernel_rfl) (by kernel_rfl) k
end Go.Proofs.Ytghdadniddoboaa

namespace Go.Proofs.Ytghdadniddoboaa
open Go Go.Sy Go.Value
set_option linter.unusedVariables false
set_option maxRecDepth 100000
def L_ref02_Shares_0 (total : Int) (weights : Option Addr) (weightsn : Nat) (weightsc : Nat) (some : Bool) (i : Int) (h : Heap) (K : Value → Heap → Prop) : Prop :=
 LoopAt Try.prog Try.f15 15 (loopK Try.f15 0) (sp 150 [(0, int IntKind.i64 total), (1, slice weights weightsn weightsc), (6, Value.bool some), (7, int IntKind.i64 i)]) h K
def L_ref02_Shares_1 (total : Int) (weights : Option Addr) (weightsn : Nat) (weightsc : Nat) (sum : Nat) (out : Option Addr) (outn : Nat) (outc : Nat) (left : Option Addr) (leftn : Nat) (leftc : Nat) (given : Nat) (i : Int) (h : Heap) (K : Value → Heap → Prop) : Prop :=
 LoopAt Try.prog Try.f15 15 (loopK Try.f15 1) (sp 150 [(0, int IntKind.i64 total), (1, slice weights weightsn weightsc), (8, pointer (some { block := sum, off := 0 })), (11, slice out outn outc), (12, slice left leftn leftc),
 (13, pointer (some { block := given, off := 0 })), (14, int IntKind.i64 i)]) h K
def L_ref02_Shares_2 (total : Int) (weights : Option Addr) (weightsn : Nat) (weightsc : Nat) (out : Option Addr) (outn : Nat) (outc : Nat) (left : Option Addr) (leftn : Nat) (leftc : Nat) (given : Nat) (more : Option Addr) (moren : Nat) (morec : Nat) (h : Heap) (K : Value → Heap → Prop) : Prop :=
 LoopAt Try.prog Try.f15 15 (loopK Try.f15 2) (sp 150 [(0, int IntKind.i64 total), (1, slice weights weightsn weightsc), (11, slice out outn outc), (12, slice left leftn leftc), (13, pointer (some { block := given, off := 0 })), (19, slice more moren morec)]) h K
def L_ref02_Shares_3 (total : Int) (weights : Option Addr) (weightsn : Nat) (weightsc : Nat) (out : Option Addr) (outn : Nat) (outc : Nat) (left : Option Addr) (leftn : Nat) (leftc : Nat) (given : Nat) (more : Option Addr) (moren : Nat) (morec : Nat) (at' : Int) (i : Int) (h : Heap) (K : Value → Heap → Prop) : Prop :=
 LoopAt Try.prog Try.f15 15 (loopK Try.f15 3) (sp 150 [(0, int IntKind.i64 total), (1, slice weights weightsn weightsc), (11, slice out outn outc), (12, slice left leftn leftc), (13, pointer (some { block := given, off := 0 })), (19, slice more moren morec),
 (20, int IntKind.i64 at'), (21, int IntKind.i64 i)]) h K
def L_ref02_Shares_0T (total : Int) (weights : Option Addr) (weightsn : Nat) (weightsc : Nat) (some : Bool) (i : Int) (h : Heap) (K : Value → Heap → Prop) : Prop :=
 Br (decide (i < (↑weightsn : Int)))
 (0 ≤ i ∧
 i < (↑weightsn : Int) ∧
 withAddr weights fun (b o : Nat) =>
 ∃ (n : Int),
 Heap.cell h b (o + Int.toNat i) = Option.some (int IntKind.i64 n) ∧
 Br (decide (n < 0)) (Ret h K (tuple #[slice none 0 0, int IntKind.i64 1]))
 (Br some (L_ref02_Shares_0 total weights weightsn weightsc true (IntKind.wrap IntKind.i64 (i + 1)) h K)
 (0 ≤ i ∧
 i < (↑weightsn : Int) ∧
 withAddr weights fun (b o : Nat) =>
 ∃ (n : Int), Heap.cell h b (o + Int.toNat i) = Option.some (int IntKind.i64 n) ∧ L_ref02_Shares_0 total weights weightsn weightsc (decide (n > 0)) (IntKind.wrap IntKind.i64 (i + 1)) h K)))
 (Br (decide (total < 0)) (Ret h K (tuple #[slice none 0 0, int IntKind.i64 1]))
 (Br (!some) (Ret h K (tuple #[slice none 0 0, int IntKind.i64 1]))
 (CallA Try.prog fn_ref01_Total [slice weights weightsn weightsc] h fun (v : Value) (h : Heap) =>
 ∃ (b : Bool),
 ∃ (a : Option Addr),
 ∃ (n : Nat),
 ∃ (m : Nat),
 v = agg #[Value.bool b, slice a n m] ∧
 newB h [Value.bool false, slice none 0 0] 102 fun (r : Nat) (h : Heap) =>
 Heap.canSt h r 0 2 ∧
 ∃ (b_1 : Bool),
 Heap.cell (Heap.setN h r 0 [Value.bool b, slice a n m]) r 0 = Option.some (Value.bool b_1) ∧
 ∃ (a_1 : Option Addr),
 ∃ (n_1 : Nat),
 ∃ (m_1 : Nat),
 Heap.cell (Heap.setN h r 0 [Value.bool b, slice a n m]) r 1 = Option.some (slice a_1 n_1 m_1) ∧
 CallA Try.prog fn_ref01_Fit [agg #[Value.bool b_1, slice a_1 n_1 m_1]] (Heap.setN h r 0 [Value.bool b, slice a n m]) fun (v : Value) (h : Heap) =>
 ∃ (n : Int),
 ∃ (n_2 : Int),
 v = tuple #[int IntKind.i64 n, int IntKind.i64 n_2] ∧
 Br (n_2 != 0) (Ret h K (tuple #[slice none 0 0, int IntKind.i64 n_2]))
 (newB h [] 2 fun (r_1 : Nat) (h : Heap) =>
 newB h [] 102 fun (r_2 : Nat) (h : Heap) =>
 newB h [Value.bool false, slice none 0 0] 102 fun (r_3 : Nat) (h : Heap) =>
 Heap.canSt h r_3 0 2 ∧
 L_ref02_Shares_1 total weights weightsn weightsc r (Option.some { block := r_1, off := 0 }) 0 0 (Option.some { block := r_2, off := 0 }) 0 0 r_3 0
 (Heap.setN h r_3 0 [Value.bool false, slice none 0 0]) K))))
theorem L_ref02_Shares_0r (total : Int) (weights : Option Addr) (weightsn : Nat) (weightsc : Nat) (some : Bool) (i : Int) (h : Heap) (K : Value → Heap → Prop) (k : L_ref02_Shares_0T total weights weightsn weightsc some i h K) : L_ref02_Shares_0 total weights weightsn weightsc some i h K :=
 LoopAt.of_ev (cs := []) Try.func15 mixed (fun junk => by kernel_rfl) k
def L_ref02_Shares_1T (total : Int) (weights : Option Addr) (weightsn : Nat) (weightsc : Nat) (sum : Nat) (out : Option Addr) (outn : Nat) (outc : Nat) (left : Option Addr) (leftn : Nat) (leftc : Nat) (given : Nat) (i : Int) (h : Heap) (K : Value → Heap → Prop) : Prop :=
 Br (decide (i < (↑weightsn : Int)))
 (0 ≤ i ∧
 i < (↑weightsn : Int) ∧
 withAddr weights fun (b o : Nat) =>
 ∃ (n : Int),
 Heap.cell h b (o + Int.toNat i) = some (int IntKind.i64 n) ∧
 CallA Try.prog fn_ref01_Of [int IntKind.i64 total] h fun (v : Value) (h_1 : Heap) =>
 ∃ (b_1 : Bool),
 ∃ (a : Option Addr),
 ∃ (n_1 : Nat),
 ∃ (m : Nat),
 v = agg #[Value.bool b_1, slice a n_1 m] ∧
 (Heap.le h h_1 ∨ Keeps [b] h h_1) ∧
 CallA Try.prog fn_ref01_Of [int IntKind.i64 n] h_1 fun (v : Value) (h : Heap) =>
 ∃ (b : Bool),
 ∃ (a_1 : Option Addr),
 ∃ (n : Nat),
 ∃ (m_1 : Nat),
 v = agg #[Value.bool b, slice a_1 n m_1] ∧
 CallA Try.prog fn_ref01_Mul [agg #[Value.bool b_1, slice a n_1 m], agg #[Value.bool b, slice a_1 n m_1]] h fun (v : Value) (h : Heap) =>
 ∃ (b : Bool),
 ∃ (a : Option Addr),
 ∃ (n : Nat),
 ∃ (m : Nat),
 v = agg #[Value.bool b, slice a n m] ∧
 newB h [Value.bool false, slice none 0 0] 102 fun (r : Nat) (h : Heap) =>
 Heap.canSt h r 0 2 ∧
 ∃ (b_2 : Bool),
 Heap.cell (Heap.setN h r 0 [Value.bool b, slice a n m]) r 0 = some (Value.bool b_2) ∧
 ∃ (a_2 : Option Addr),
 ∃ (n_2 : Nat),
 ∃ (m_2 : Nat),
 Heap.cell (Heap.setN h r 0 [Value.bool b, slice a n m]) r 1 = some (slice a_2 n_2 m_2) ∧
 ∃ (b_3 : Bool),
 Heap.cell (Heap.setN h r 0 [Value.bool b, slice a n m]) sum 0 = some (Value.bool b_3) ∧
 ∃ (a_3 : Option Addr),
 ∃ (n_3 : Nat),
 ∃ (m_3 : Nat),
 Heap.cell (Heap.setN h r 0 [Value.bool b, slice a n m]) sum 1 = some (slice a_3 n_3 m_3) ∧
 CallA Try.prog fn_ref01_Div [agg #[Value.bool b_2, slice a_2 n_2 m_2], agg #[Value.bool b_3, slice a_3 n_3 m_3], Value.bool false]
 (Heap.setN h r 0 [Value.bool b, slice a n m]) fun (v : Value) (h : Heap) =>
 ∃ (b : Bool),
 ∃ (a : Option Addr),
 ∃ (n : Nat),
 ∃ (m : Nat),
 v = agg #[Value.bool b, slice a n m] ∧
 newB h [Value.bool false, slice none 0 0] 102 fun (r_1 : Nat) (h : Heap) =>
 Heap.canSt h r_1 0 2 ∧
 ∃ (b_4 : Bool),
 Heap.cell (Heap.setN h r_1 0 [Value.bool b, slice a n m]) r_1 0 = some (Value.bool b_4) ∧
 ∃ (a_4 : Option Addr),
 ∃ (n_4 : Nat),
 ∃ (m_4 : Nat),
 Heap.cell (Heap.setN h r_1 0 [Value.bool b, slice a n m]) r_1 1 = some (slice a_4 n_4 m_4) ∧
 CallA Try.prog fn_ref01_Fit [agg #[Value.bool b_4, slice a_4 n_4 m_4]]
 (Heap.setN h r_1 0 [Value.bool b, slice a n m]) fun (v : Value) (h : Heap) =>
 ∃ (n : Int),
 ∃ (n_5 : Int),
 v = tuple #[int IntKind.i64 n, int IntKind.i64 n_5] ∧
 newB h [int IntKind.i64 n] 2 fun (r_2 : Nat) (h : Heap) =>
 AppA [int IntKind.i64 0] 2 h out outn outc 1 (some { block := r_2, off := 0 })
 fun (ap : Option Addr) (cp : Nat) (h : Heap) =>
 ∃ (b : Bool),
 Heap.cell h r 0 = some (Value.bool b) ∧
 ∃ (a : Option Addr),
 ∃ (n : Nat),
 ∃ (m : Nat),
 Heap.cell h r 1 = some (slice a n m) ∧
 ∃ (b_5 : Bool),
 Heap.cell h r_1 0 = some (Value.bool b_5) ∧
 ∃ (a_5 : Option Addr),
 ∃ (n_6 : Nat),
 ∃ (m_5 : Nat),
 Heap.cell h r_1 1 = some (slice a_5 n_6 m_5) ∧
 ∃ (b_6 : Bool),
 Heap.cell h sum 0 = some (Value.bool b_6) ∧
 ∃ (a_6 : Option Addr),
 ∃ (n_7 : Nat),
 ∃ (m_6 : Nat),
 Heap.cell h sum 1 = some (slice a_6 n_7 m_6) ∧
 CallA Try.prog 61
 [agg #[Value.bool b_5, slice a_5 n_6 m_5],
 agg #[Value.bool b_6, slice a_6 n_7 m_6]]
 h fun (v : Value) (h_2 : Heap) =>
 ∃ (b_7 : Bool),
 ∃ (a_7 : Option Addr),
 ∃ (n_8 : Nat),
 ∃ (m_7 : Nat),
 v = agg #[Value.bool b_7, slice a_7 n_8 m_7] ∧
 (Heap.le h h_2 ∨ Keeps [r] h h_2) ∧
 CallA Try.prog 65
 [agg #[Value.bool b_7, slice a_7 n_8 m_7]] h_2
 fun (v : Value) (h : Heap) =>
 ∃ (b_8 : Bool),
 ∃ (a_8 : Option Addr),
 ∃ (n_9 : Nat),
 ∃ (m_8 : Nat),
 v =
 agg
 #[Value.bool b_8,
 slice a_8 n_9 m_8] ∧
 (Heap.le h_2 h ∨ Keeps [r] h_2 h) ∧
 CallA Try.prog 64
 [agg #[Value.bool b, slice a n m],
 agg
 #[Value.bool b_8,
 slice a_8 n_9 m_8]]
 h fun (v : Value) (h : Heap) =>
 ∃ (b : Bool),
 ∃ (a : Option Addr),
 ∃ (n : Nat),
 ∃ (m : Nat),
 v =
 agg
 #[Value.bool b,
 slice a n m] ∧
 newB h
 [Value.bool b,
 slice a n m]
 102
 fun (r : Nat)
 (h : Heap) =>
 AppA
 [Value.bool false,
 slice none 0 0]
 102 h left leftn leftc
 1
 (some
 { block := r, off := 0 })
 fun
 (ap_1 : Option Addr)
 (cp_1 : Nat)
 (h : Heap) =>
 ∃ (b : Bool),
 Heap.cell h given
 0 =
 some
 (Value.bool
 b) ∧
 ∃ (a :
 Option Addr),
 ∃ (n : Nat),
 ∃ (m : Nat),
 Heap.cell h
 given
 1 =
 some
 (slice
 a n
 m) ∧
 ∃ (b_9 :
 Bool),
 Heap.cell
 h
 r_1
 0 =
 some
 (Value.bool
 b_9) ∧
 ∃ (a_9
 :
 Option
 Addr),
 ∃
 (n_10
 :
 Nat),
 ∃
 (m_9
 :
 Nat),
 Heap.cell
 h
 r_1
 1 =
 some
 (slice
 a_9
 n_10
 m_9) ∧
 CallA
 Try.prog
 64
 [agg
 #[Value.bool
 b,
 slice
 a
 n
 m],
 agg
 #[Value.bool
 b_9,
 slice
 a_9
 n_10
 m_9]]
 h
 fun
 (v :
 Value)
 (h :
 Heap) =>
 ∃
 (b
 :
 Bool),
 ∃
 (a
 :
 Option
 Addr),
 ∃
 (n
 :
 Nat),
 ∃
 (m
 :
 Nat),
 v =
 agg
 #[Value.bool
 b,
 slice
 a
 n
 m] ∧
 Heap.canSt
 h
 given
 0
 2 ∧
 L_ref02_Shares_1
 total
 weights
 weightsn
 weightsc
 sum
 ap
 (outn +
 1)
 cp
 ap_1
 (leftn +
 1)
 cp_1
 given
 (IntKind.wrap
 IntKind.i64
 (i +
 1))
 (Heap.setN
 h
 given
 0
 [Value.bool
 b,
 slice
 a
 n
 m])
 K)
 (0 ≤ (↑weightsn : Int) ∧
 (↑weightsn : Int) ≤ (↑weightsn : Int) ∧
 (↑weightsn : Int) ≤ 281474976710656 ∧
 1 * (↑weightsn : Int) ≤ 281474976710656 ∧
 newB h (repL (Int.toNat (↑weightsn : Int)) [Value.bool false]) 4 fun (r : Nat) (h : Heap) =>
 L_ref02_Shares_2 total weights weightsn weightsc out outn outc left leftn leftc given (some { block := r, off := 0 }) (Int.toNat (↑weightsn : Int)) (Int.toNat (↑weightsn : Int)) h K)
theorem L_ref02_Shares_1r (total : Int) (weights : Option Addr) (weightsn : Nat) (weightsc : Nat) (sum : Nat) (out : Option Addr) (outn : Nat) (outc : Nat) (left : Option Addr) (leftn : Nat) (leftc : Nat) (given : Nat) (i : Int) (h : Heap) (K : Value → Heap → Prop) (k : L_ref02_Shares_1T total weights weightsn weightsc sum out outn outc left leftn leftc given i h K) : L_ref02_Shares_1 total weights weightsn weightsc sum out outn outc left leftn leftc given i h K :=
 LoopAt.of_ev (cs := []) Try.func15 mixed (fun junk => by kernel_rfl) k
def L_ref02_Shares_2T (total : Int) (weights : Option Addr) (weightsn : Nat) (weightsc : Nat) (out : Option Addr) (outn : Nat) (outc : Nat) (left : Option Addr) (leftn : Nat) (leftc : Nat) (given : Nat) (more : Option Addr) (moren : Nat) (morec : Nat) (h : Heap) (K : Value → Heap → Prop) : Prop :=
 ∃ (b : Bool),
 Heap.cell h given 0 = some (Value.bool b) ∧
 ∃ (a : Option Addr),
 ∃ (n : Nat),
 ∃ (m : Nat),
 Heap.cell h given 1 = some (slice a n m) ∧
 CallA Try.prog fn_ref01_Of [int IntKind.i64 total] h fun (v : Value) (h_1 : Heap) =>
 ∃ (b_1 : Bool),
 ∃ (a_1 : Option Addr),
 ∃ (n_1 : Nat),
 ∃ (m_1 : Nat),
 v = agg #[Value.bool b_1, slice a_1 n_1 m_1] ∧
 (Heap.le h h_1 ∨ Keeps [given] h h_1) ∧
 CallA Try.prog fn_ref01_Cmp [agg #[Value.bool b, slice a n m], agg #[Value.bool b_1, slice a_1 n_1 m_1]] h_1 fun (v : Value) (h : Heap) =>
 ∃ (n : Int),
 v = int IntKind.i64 n ∧
 Br (decide (n < 0)) (L_ref02_Shares_3 total weights weightsn weightsc out outn outc left leftn leftc given more moren morec (-1) 0 h K) (Ret h K (tuple #[slice out outn outc, int IntKind.i64 0]))
theorem L_ref02_Shares_2r (total : Int) (weights : Option Addr) (weightsn : Nat) (weightsc : Nat) (out : Option Addr) (outn : Nat) (outc : Nat) (left : Option Addr) (leftn : Nat) (leftc : Nat) (given : Nat) (more : Option Addr) (moren : Nat) (morec : Nat) (h : Heap) (K : Value → Heap → Prop) (k : L_ref02_Shares_2T total weights weightsn weightsc out outn outc left leftn leftc given more moren morec h K) : L_ref02_Shares_2 total weights weightsn weightsc out outn outc left leftn leftc given more moren morec h K :=
 LoopAt.of_ev (cs := []) Try.func15 mixed (fun junk => by kernel_rfl) k
def L_ref02_Shares_3T (total : Int) (weights : Option Addr) (weightsn : Nat) (weightsc : Nat) (out : Option Addr) (outn : Nat) (outc : Nat) (left : Option Addr) (leftn : Nat) (leftc : Nat) (given : Nat) (more : Option Addr) (moren : Nat) (morec : Nat) (at' : Int) (i : Int) (h : Heap) (K : Value → Heap → Prop) : Prop :=
 Br (decide (i < (↑weightsn : Int)))
 (0 ≤ i ∧
 i < (↑moren : Int) ∧
 withAddr more fun (b o : Nat) =>
 ∃ (b_1 : Bool),
 Heap.cell h b (o + Int.toNat i) = some (Value.bool b_1) ∧
 Br (!b_1)
 (Br (decide (at' < 0)) (L_ref02_Shares_3 total weights weightsn weightsc out outn outc left leftn leftc given more moren morec i (IntKind.wrap IntKind.i64 (i + 1)) h K)
 (0 ≤ i ∧
 i < (↑leftn : Int) ∧
 withAddr left fun (b o : Nat) =>
 ∃ (b_2 : Bool),
 Heap.cell h b (o + Int.toNat i * 2) = some (Value.bool b_2) ∧
 ∃ (a : Option Addr),
 ∃ (n : Nat),
 ∃ (m : Nat),
 Heap.cell h b (o + Int.toNat i * 2 + 1) = some (slice a n m) ∧
 0 ≤ at' ∧
 at' < (↑leftn : Int) ∧
 withAddr left fun (b o : Nat) =>
 ∃ (b_3 : Bool),
 Heap.cell h b (o + Int.toNat at' * 2) = some (Value.bool b_3) ∧
 ∃ (a_1 : Option Addr),
 ∃ (n_1 : Nat),
 ∃ (m_1 : Nat),
 Heap.cell h b (o + Int.toNat at' * 2 + 1) = some (slice a_1 n_1 m_1) ∧
 CallA Try.prog fn_ref01_Cmp [agg #[Value.bool b_2, slice a n m], agg #[Value.bool b_3, slice a_1 n_1 m_1]] h fun (v : Value) (h : Heap) =>
 ∃ (n : Int),
 v = int IntKind.i64 n ∧
 Br (decide (n > 0)) (L_ref02_Shares_3 total weights weightsn weightsc out outn outc left leftn leftc given more moren morec i (IntKind.wrap IntKind.i64 (i + 1)) h K)
 (L_ref02_Shares_3 total weights weightsn weightsc out outn outc left leftn leftc given more moren morec at' (IntKind.wrap IntKind.i64 (i + 1)) h K)))
 (L_ref02_Shares_3 total weights weightsn weightsc out outn outc left leftn leftc given more moren morec at' (IntKind.wrap IntKind.i64 (i + 1)) h K))
 (0 ≤ at' ∧
 at' < (↑moren : Int) ∧
 withAddr more fun (b o : Nat) =>
 Heap.canSt h b (o + Int.toNat at') 1 ∧
 0 ≤ at' ∧
 at' < (↑outn : Int) ∧
 withAddr out fun (b_1 o_1 : Nat) =>
 ∃ (n : Int),
 Heap.cell (Heap.setN h b (o + Int.toNat at') [Value.bool true]) b_1 (o_1 + Int.toNat at') = some (int IntKind.i64 n) ∧
 0 ≤ at' ∧
 at' < (↑outn : Int) ∧
 withAddr out fun (b_2 o_2 : Nat) =>
 Heap.canSt (Heap.setN h b (o + Int.toNat at') [Value.bool true]) b_2 (o_2 + Int.toNat at') 1 ∧
 ∃ (b_3 : Bool),
 Heap.cell (Heap.setN (Heap.setN h b (o + Int.toNat at') [Value.bool true]) b_2 (o_2 + Int.toNat at') [int IntKind.i64 (IntKind.wrap IntKind.i64 (n + 1))]) given 0 = some (Value.bool b_3) ∧
 ∃ (a : Option Addr),
 ∃ (n_1 : Nat),
 ∃ (m : Nat),
 Heap.cell (Heap.setN (Heap.setN h b (o + Int.toNat at') [Value.bool true]) b_2 (o_2 + Int.toNat at') [int IntKind.i64 (IntKind.wrap IntKind.i64 (n + 1))]) given 1 =
 some (slice a n_1 m) ∧
 CallA Try.prog fn_ref01_Of [int IntKind.i64 1]
 (Heap.setN (Heap.setN h b (o + Int.toNat at') [Value.bool true]) b_2 (o_2 + Int.toNat at') [int IntKind.i64 (IntKind.wrap IntKind.i64 (n + 1))]) fun (v : Value) (h_1 : Heap) =>
 ∃ (b_4 : Bool),
 ∃ (a_1 : Option Addr),
 ∃ (n_2 : Nat),
 ∃ (m_1 : Nat),
 v = agg #[Value.bool b_4, slice a_1 n_2 m_1] ∧
 (Heap.le (Heap.setN (Heap.setN h b (o + Int.toNat at') [Value.bool true]) b_2 (o_2 + Int.toNat at') [int IntKind.i64 (IntKind.wrap IntKind.i64 (n + 1))]) h_1 ∨
 Keeps [given] (Heap.setN (Heap.setN h b (o + Int.toNat at') [Value.bool true]) b_2 (o_2 + Int.toNat at') [int IntKind.i64 (IntKind.wrap IntKind.i64 (n + 1))])
 h_1) ∧
 CallA Try.prog fn_ref01_Add [agg #[Value.bool b_3, slice a n_1 m], agg #[Value.bool b_4, slice a_1 n_2 m_1]] h_1 fun (v : Value) (h : Heap) =>
 ∃ (b : Bool),
 ∃ (a : Option Addr),
 ∃ (n : Nat),
 ∃ (m : Nat),
 v = agg #[Value.bool b, slice a n m] ∧
 Heap.canSt h given 0 2 ∧
 L_ref02_Shares_2 total weights weightsn weightsc out outn outc left leftn leftc given more moren morec (Heap.setN h given 0 [Value.bool b, slice a n m]) K)
theorem L_ref02_Shares_3r (total : Int) (weights : Option Addr) (weightsn : Nat) (weightsc : Nat) (out : Option Addr) (outn : Nat) (outc : Nat) (left : Option Addr) (leftn : Nat) (leftc : Nat) (given : Nat) (more : Option Addr) (moren : Nat) (morec : Nat) (at' : Int) (i : Int) (h : Heap) (K : Value → Heap → Prop) (k : L_ref02_Shares_3T total weights weightsn weightsc out outn outc left leftn leftc given more moren morec at' i h K) : L_ref02_Shares_3 total weights weightsn weightsc out outn outc left leftn leftc given more moren morec at' i h K :=
 LoopAt.of_ev (cs := []) Try.func15 mixed (fun junk => by kernel_rfl) k
def F_ref02_SharesT (total : Int) (weights : Option Addr) (weightsn : Nat) (weightsc : Nat) (h : Heap) (K : Value → Heap → Prop) : Prop :=
 Br (decide ((↑weightsn : Int) > 64)) (Ret h K (tuple #[slice none 0 0, int IntKind.i64 4])) (L_ref02_Shares_0 total weights weightsn weightsc false 0 h K)
theorem F_ref02_Shares (total : Int) (weights : Option Addr) (weightsn : Nat) (weightsc : Nat) (h : Heap) (K : Value → Heap → Prop) (k : F_ref02_SharesT total weights weightsn weightsc h K) : CallA Try.prog fn_ref02_Shares [int IntKind.i64 total, slice weights weightsn weightsc] h K :=
 CallA.of_ev (cs := []) Try.func15 (by kernel_rfl) (fun _ _ => Try.call15 _ _) mixed (by kernel_rfl) (by kernel_rfl) k
def L_ref02_Even_0 (total : Int) (parts : Int) (l : Option Addr) (ln : Nat) (lc : Nat) (i : Int) (h : Heap) (K : Value → Heap → Prop) : Prop :=
 LoopAt Try.prog Try.f17 17 (loopK Try.f17 0) (sp 30 [(0, int IntKind.i64 total), (1, int IntKind.i64 parts), (6, slice l ln lc), (7, int IntKind.i64 i)]) h K
def L_ref02_Even_0T (total : Int) (parts : Int) (l : Option Addr) (ln : Nat) (lc : Nat) (i : Int) (h : Heap) (K : Value → Heap → Prop) : Prop :=
 Br (decide (i < parts))
 (newB h [int IntKind.i64 1] 2 fun (r : Nat) (h : Heap) =>
 AppA [int IntKind.i64 0] 2 h l ln lc 1 (some { block := r, off := 0 }) fun (ap : Option Addr) (cp : Nat) (h : Heap) => L_ref02_Even_0 total parts ap (ln + 1) cp (IntKind.wrap IntKind.i64 (i + 1)) h K)
 (CallA Try.prog fn_ref02_Shares [int IntKind.i64 total, slice l ln lc] h fun (v : Value) (h : Heap) =>
 ∃ (a : Option Addr), ∃ (n : Nat), ∃ (m : Nat), ∃ (n_1 : Int), v = tuple #[slice a n m, int IntKind.i64 n_1] ∧ Ret h K (tuple #[slice a n m, int IntKind.i64 n_1]))
theorem L_ref02_Even_0r (total : Int) (parts : Int) (l : Option Addr) (ln : Nat) (lc : Nat) (i : Int) (h : Heap) (K : Value → Heap → Prop) (k : L_ref02_Even_0T total parts l ln lc i h K) : L_ref02_Even_0 total parts l ln lc i h K :=
 LoopAt.of_ev (cs := []) Try.func17 mixed (fun junk => by kernel_rfl) k
def F_ref02_EvenT (total : Int) (parts : Int) (h : Heap) (K : Value → Heap → Prop) : Prop :=
 Br (decide (parts > 64)) (Ret h K (tuple #[slice none 0 0, int IntKind.i64 4]))
 (Br (decide (total < 0)) (Ret h K (tuple #[slice none 0 0, int IntKind.i64 1]))
 (Br (decide (parts < 1)) (Ret h K (tuple #[slice none 0 0, int IntKind.i64 1])) (newB h [] 2 fun (r : Nat) (h : Heap) => L_ref02_Even_0 total parts (some { block := r, off := 0 }) 0 0 0 h K)))
theorem F_ref02_Even (total : Int) (parts : Int) (h : Heap) (K : Value → Heap → Prop) (k : F_ref02_EvenT total parts h K) : CallA Try.prog fn_ref02_Even [int IntKind.i64 total, int IntKind.i64 parts] h K :=
 CallA.of_ev (cs := []) Try.func17 (by kernel_rfl) (fun _ _ => Try.call17 _ _) mixed (by kernel_rfl) (by kernel_rfl) k
def L_ref02_Fill_0 (total : Int) (rooms : Option Addr) (roomsn : Nat) (roomsc : Nat) (bad : Bool) (i : Int) (h : Heap) (K : Value → Heap → Prop) : Prop :=
 LoopAt Try.prog Try.f19 19 (loopK Try.f19 0) (sp 57 [(0, int IntKind.i64 total), (1, slice rooms roomsn roomsc), (7, Value.bool bad), (8, int IntKind.i64 i)]) h K
def L_ref02_Fill_1 (total : Int) (rooms : Option Addr) (roomsn : Nat) (roomsc : Nat) (out : Option Addr) (outn : Nat) (outc : Nat) (i : Int) (h : Heap) (K : Value → Heap → Prop) : Prop :=
 LoopAt Try.prog Try.f19 19 (loopK Try.f19 1) (sp 57 [(0, int IntKind.i64 total), (1, slice rooms roomsn roomsc), (9, slice out outn outc), (10, int IntKind.i64 i)]) h K
def L_ref02_Fill_0T (total : Int) (rooms : Option Addr) (roomsn : Nat) (roomsc : Nat) (bad : Bool) (i : Int) (h : Heap) (K : Value → Heap → Prop) : Prop :=
 Br (decide (i < (↑roomsn : Int)))
 (Br bad (L_ref02_Fill_0 total rooms roomsn roomsc true (IntKind.wrap IntKind.i64 (i + 1)) h K)
 (0 ≤ i ∧
 i < (↑roomsn : Int) ∧
 withAddr rooms fun (b o : Nat) => ∃ (n : Int), Heap.cell h b (o + Int.toNat i) = some (int IntKind.i64 n) ∧ L_ref02_Fill_0 total rooms roomsn roomsc (decide (n < 0)) (IntKind.wrap IntKind.i64 (i + 1)) h K))
 (Br bad (Ret h K (tuple #[slice none 0 0, int IntKind.i64 0, int IntKind.i64 1])) (newB h [] 2 fun (r : Nat) (h : Heap) => L_ref02_Fill_1 total rooms roomsn roomsc (some { block := r, off := 0 }) 0 0 0 h K))
theorem L_ref02_Fill_0r (total : Int) (rooms : Option Addr) (roomsn : Nat) (roomsc : Nat) (bad : Bool) (i : Int) (h : Heap) (K : Value → Heap → Prop) (k : L_ref02_Fill_0T total rooms roomsn roomsc bad i h K) : L_ref02_Fill_0 total rooms roomsn roomsc bad i h K :=
 LoopAt.of_ev (cs := []) Try.func19 mixed (fun junk => by kernel_rfl) k
def L_ref02_Fill_1T (total : Int) (rooms : Option Addr) (roomsn : Nat) (roomsc : Nat) (out : Option Addr) (outn : Nat) (outc : Nat) (i : Int) (h : Heap) (K : Value → Heap → Prop) : Prop :=
 Br (decide (i < (↑roomsn : Int)))
 (0 ≤ i ∧
 i < (↑roomsn : Int) ∧
 withAddr rooms fun (b o : Nat) =>
 ∃ (n : Int),
 Heap.cell h b (o + Int.toNat i) = some (int IntKind.i64 n) ∧
 newB h [int IntKind.i64 (if total < n then total else n)] 2 fun (r : Nat) (h : Heap) =>
 AppA [int IntKind.i64 0] 2 h out outn outc 1 (some { block := r, off := 0 }) fun (ap : Option Addr) (cp : Nat) (h : Heap) =>
 0 ≤ i ∧
 i < (↑roomsn : Int) ∧
 withAddr rooms fun (b o : Nat) =>
 ∃ (n : Int),
 Heap.cell h b (o + Int.toNat i) = some (int IntKind.i64 n) ∧
 L_ref02_Fill_1 (IntKind.wrap IntKind.i64 (total - if total < n then total else n)) rooms roomsn roomsc ap (outn + 1) cp (IntKind.wrap IntKind.i64 (i + 1)) h K)
 (Ret h K (tuple #[slice out outn outc, int IntKind.i64 total, int IntKind.i64 0]))
theorem L_ref02_Fill_1r (total : Int) (rooms : Option Addr) (roomsn : Nat) (roomsc : Nat) (out : Option Addr) (outn : Nat) (outc : Nat) (i : Int) (h : Heap) (K : Value → Heap → Prop) (k : L_ref02_Fill_1T total rooms roomsn roomsc out outn outc i h K) : L_ref02_Fill_1 total rooms roomsn roomsc out outn outc i h K :=
 LoopAt.of_ev (cs := []) Try.func19 mixed (fun junk => by kernel_rfl) k
def F_ref02_FillT (total : Int) (rooms : Option Addr) (roomsn : Nat) (roomsc : Nat) (h : Heap) (K : Value → Heap → Prop) : Prop :=
 Br (decide ((↑roomsn : Int) > 64)) (Ret h K (tuple #[slice none 0 0, int IntKind.i64 0, int IntKind.i64 4])) (L_ref02_Fill_0 total rooms roomsn roomsc (decide (total < 0)) 0 h K)
theorem F_ref02_Fill (total : Int) (rooms : Option Addr) (roomsn : Nat) (roomsc : Nat) (h : Heap) (K : Value → Heap → Prop) (k : F_ref02_FillT total rooms roomsn roomsc h K) : CallA Try.prog fn_ref02_Fill [int IntKind.i64 total, slice rooms roomsn roomsc] h K :=
 CallA.of_ev (cs := []) Try.func19 (by kernel_rfl) (fun _ _ => Try.call19 _ _) mixed (by kernel_rfl) (by kernel_rfl) k
end Go.Proofs.Ytghdadniddoboaa
