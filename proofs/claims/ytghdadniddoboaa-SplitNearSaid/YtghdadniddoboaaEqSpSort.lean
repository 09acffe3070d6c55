import Derived.Test.YtghdadniddoboaaEqN
namespace Go.Proofs.Ytghdadniddoboaa
open Go Go.Sy Go.Value
set_option linter.unusedVariables false
set_option maxRecDepth 100000
def L_slices_insertionSortCmpFunc_int_0 (data : Option Addr) (datan : Nat) (datac : Nat) (a : Int) (b : Int) (cmp_0_0 : Option Addr) (cmp_0_0n : Nat) (cmp_0_0c : Nat) (i : Int) (h : Heap) (K : Value → Heap → Prop) : Prop :=
 LoopAt Try.prog Try.f137 137 (loopK Try.f137 0) (sp 53 [(0, slice data datan datac), (1, int IntKind.i64 a), (2, int IntKind.i64 b), (3, func (Fn.func fn_split_by_order) #[agg #[slice cmp_0_0 cmp_0_0n cmp_0_0c]] #[]), (8, int IntKind.i64 i)]) h K
def L_slices_insertionSortCmpFunc_int_1 (data : Option Addr) (datan : Nat) (datac : Nat) (a : Int) (b : Int) (cmp_0_0 : Option Addr) (cmp_0_0n : Nat) (cmp_0_0c : Nat) (i : Int) (j : Int) (h : Heap) (K : Value → Heap → Prop) : Prop :=
 LoopAt Try.prog Try.f137 137 (loopK Try.f137 1) (sp 53 [(0, slice data datan datac), (1, int IntKind.i64 a), (2, int IntKind.i64 b), (3, func (Fn.func fn_split_by_order) #[agg #[slice cmp_0_0 cmp_0_0n cmp_0_0c]] #[]), (8, int IntKind.i64 i), (9, int IntKind.i64 j)]) h K
def L_slices_insertionSortCmpFunc_int_0T (data : Option Addr) (datan : Nat) (datac : Nat) (a : Int) (b : Int) (cmp_0_0 : Option Addr) (cmp_0_0n : Nat) (cmp_0_0c : Nat) (i : Int) (h : Heap) (K : Value → Heap → Prop) : Prop :=
 Br (decide (i < b)) (L_slices_insertionSortCmpFunc_int_1 data datan datac a b cmp_0_0 cmp_0_0n cmp_0_0c i i h K) (Ret h K (tuple #[]))
theorem L_slices_insertionSortCmpFunc_int_0r (data : Option Addr) (datan : Nat) (datac : Nat) (a : Int) (b : Int) (cmp_0_0 : Option Addr) (cmp_0_0n : Nat) (cmp_0_0c : Nat) (i : Int) (h : Heap) (K : Value → Heap → Prop) (k : L_slices_insertionSortCmpFunc_int_0T data datan datac a b cmp_0_0 cmp_0_0n cmp_0_0c i h K) : L_slices_insertionSortCmpFunc_int_0 data datan datac a b cmp_0_0 cmp_0_0n cmp_0_0c i h K :=
 LoopAt.of_ev (cs := []) Try.func137 mixed (fun junk => by kernel_rfl) k
def L_slices_insertionSortCmpFunc_int_1T (data : Option Addr) (datan : Nat) (datac : Nat) (a : Int) (b : Int) (cmp_0_0 : Option Addr) (cmp_0_0n : Nat) (cmp_0_0c : Nat) (i : Int) (j : Int) (h : Heap) (K : Value → Heap → Prop) : Prop :=
 Br (decide (j > a))
 (0 ≤ j ∧
 j < (↑datan : Int) ∧
 withAddr data fun (b_1 o : Nat) =>
 ∃ (n : Int),
 Heap.cell h b_1 (o + Int.toNat j) = some (int IntKind.i64 n) ∧
 0 ≤ IntKind.wrap IntKind.i64 (j - 1) ∧
 IntKind.wrap IntKind.i64 (j - 1) < (↑datan : Int) ∧
 withAddr data fun (b_2 o : Nat) =>
 ∃ (n_1 : Int),
 Heap.cell h b_2 (o + Int.toNat (IntKind.wrap IntKind.i64 (j - 1))) = some (int IntKind.i64 n_1) ∧
 CallA Try.prog fn_split_by_order [agg #[slice cmp_0_0 cmp_0_0n cmp_0_0c], int IntKind.i64 n, int IntKind.i64 n_1] h fun (v : Value) (h : Heap) =>
 ∃ (n : Int),
 v = int IntKind.i64 n ∧
 Br (decide (n < 0))
 (0 ≤ IntKind.wrap IntKind.i64 (j - 1) ∧
 IntKind.wrap IntKind.i64 (j - 1) < (↑datan : Int) ∧
 withAddr data fun (b_3 o : Nat) =>
 ∃ (n : Int),
 Heap.cell h b_3 (o + Int.toNat (IntKind.wrap IntKind.i64 (j - 1))) = some (int IntKind.i64 n) ∧
 0 ≤ j ∧
 j < (↑datan : Int) ∧
 withAddr data fun (b_4 o : Nat) =>
 ∃ (n_2 : Int),
 Heap.cell h b_4 (o + Int.toNat j) = some (int IntKind.i64 n_2) ∧
 0 ≤ j ∧
 j < (↑datan : Int) ∧
 withAddr data fun (b_5 o : Nat) =>
 Heap.canSt h b_5 (o + Int.toNat j) 1 ∧
 0 ≤ IntKind.wrap IntKind.i64 (j - 1) ∧
 IntKind.wrap IntKind.i64 (j - 1) < (↑datan : Int) ∧
 withAddr data fun (b_6 o_1 : Nat) =>
 Heap.canSt (Heap.setN h b_5 (o + Int.toNat j) [int IntKind.i64 n]) b_6 (o_1 + Int.toNat (IntKind.wrap IntKind.i64 (j - 1))) 1 ∧
 L_slices_insertionSortCmpFunc_int_1 data datan datac a b cmp_0_0 cmp_0_0n cmp_0_0c i (IntKind.wrap IntKind.i64 (j - 1))
 (Heap.setN (Heap.setN h b_5 (o + Int.toNat j) [int IntKind.i64 n]) b_6 (o_1 + Int.toNat (IntKind.wrap IntKind.i64 (j - 1))) [int IntKind.i64 n_2]) K)
 (L_slices_insertionSortCmpFunc_int_0 data datan datac a b cmp_0_0 cmp_0_0n cmp_0_0c (IntKind.wrap IntKind.i64 (i + 1)) h K))
 (L_slices_insertionSortCmpFunc_int_0 data datan datac a b cmp_0_0 cmp_0_0n cmp_0_0c (IntKind.wrap IntKind.i64 (i + 1)) h K)
theorem L_slices_insertionSortCmpFunc_int_1r (data : Option Addr) (datan : Nat) (datac : Nat) (a : Int) (b : Int) (cmp_0_0 : Option Addr) (cmp_0_0n : Nat) (cmp_0_0c : Nat) (i : Int) (j : Int) (h : Heap) (K : Value → Heap → Prop) (k : L_slices_insertionSortCmpFunc_int_1T data datan datac a b cmp_0_0 cmp_0_0n cmp_0_0c i j h K) : L_slices_insertionSortCmpFunc_int_1 data datan datac a b cmp_0_0 cmp_0_0n cmp_0_0c i j h K :=
 LoopAt.of_ev (cs := []) Try.func137 mixed (fun junk => by kernel_rfl) k
def F_slices_insertionSortCmpFunc_intT (data : Option Addr) (datan : Nat) (datac : Nat) (a : Int) (b : Int) (cmp_0 : Option Addr) (cmp_0n : Nat) (cmp_0c : Nat) (h : Heap) (K : Value → Heap → Prop) : Prop :=
 L_slices_insertionSortCmpFunc_int_0 data datan datac a b cmp_0 cmp_0n cmp_0c (IntKind.wrap IntKind.i64 (a + 1)) h K
theorem F_slices_insertionSortCmpFunc_int (data : Option Addr) (datan : Nat) (datac : Nat) (a : Int) (b : Int) (cmp_0 : Option Addr) (cmp_0n : Nat) (cmp_0c : Nat) (h : Heap) (K : Value → Heap → Prop) (k : F_slices_insertionSortCmpFunc_intT data datan datac a b cmp_0 cmp_0n cmp_0c h K) : CallA Try.prog fn_slices_insertionSortCmpFunc_int [slice data datan datac, int IntKind.i64 a, int IntKind.i64 b, func (Fn.func fn_split_by_order) #[agg #[slice cmp_0 cmp_0n cmp_0c]] #[]] h K :=
 CallA.of_ev (cs := []) Try.func137 (by kernel_rfl) (fun _ _ => Try.call137 _ _) mixed (by kernel_rfl) (by kernel_rfl) k
def L_slices_siftDownCmpFunc_int_0 (data : Option Addr) (datan : Nat) (datac : Nat) (hi : Int) (first : Int) (cmp_0_0 : Option Addr) (cmp_0_0n : Nat) (cmp_0_0c : Nat) (root : Int) (h : Heap) (K : Value → Heap → Prop) : Prop :=
 LoopAt Try.prog Try.f164 164 (loopK Try.f164 0) (sp 82 [(0, slice data datan datac), (2, int IntKind.i64 hi), (3, int IntKind.i64 first), (4, func (Fn.func fn_split_by_order) #[agg #[slice cmp_0_0 cmp_0_0n cmp_0_0c]] #[]), (10, int IntKind.i64 root)]) h K
def L_slices_siftDownCmpFunc_int_0T (data : Option Addr) (datan : Nat) (datac : Nat) (hi : Int) (first : Int) (cmp_0_0 : Option Addr) (cmp_0_0n : Nat) (cmp_0_0c : Nat) (root : Int) (h : Heap) (K : Value → Heap → Prop) : Prop :=
 Br (decide (IntKind.wrap IntKind.i64 (IntKind.wrap IntKind.i64 (2 * root) + 1) ≥ hi)) (Ret h K (tuple #[]))
 (Br (decide (IntKind.wrap IntKind.i64 (IntKind.wrap IntKind.i64 (IntKind.wrap IntKind.i64 (2 * root) + 1) + 1) < hi))
 (0 ≤ IntKind.wrap IntKind.i64 (first + IntKind.wrap IntKind.i64 (IntKind.wrap IntKind.i64 (2 * root) + 1)) ∧
 IntKind.wrap IntKind.i64 (first + IntKind.wrap IntKind.i64 (IntKind.wrap IntKind.i64 (2 * root) + 1)) < (↑datan : Int) ∧
 withAddr data fun (b o : Nat) =>
 ∃ (n : Int),
 Heap.cell h b (o + Int.toNat (IntKind.wrap IntKind.i64 (first + IntKind.wrap IntKind.i64 (IntKind.wrap IntKind.i64 (2 * root) + 1)))) = some (int IntKind.i64 n) ∧
 0 ≤ IntKind.wrap IntKind.i64 (IntKind.wrap IntKind.i64 (first + IntKind.wrap IntKind.i64 (IntKind.wrap IntKind.i64 (2 * root) + 1)) + 1) ∧
 IntKind.wrap IntKind.i64 (IntKind.wrap IntKind.i64 (first + IntKind.wrap IntKind.i64 (IntKind.wrap IntKind.i64 (2 * root) + 1)) + 1) < (↑datan : Int) ∧
 withAddr data fun (b o : Nat) =>
 ∃ (n_1 : Int),
 Heap.cell h b (o + Int.toNat (IntKind.wrap IntKind.i64 (IntKind.wrap IntKind.i64 (first + IntKind.wrap IntKind.i64 (IntKind.wrap IntKind.i64 (2 * root) + 1)) + 1))) = some (int IntKind.i64 n_1) ∧
 CallA Try.prog fn_split_by_order [agg #[slice cmp_0_0 cmp_0_0n cmp_0_0c], int IntKind.i64 n, int IntKind.i64 n_1] h fun (v : Value) (h : Heap) =>
 ∃ (n : Int),
 v = int IntKind.i64 n ∧
 Br (decide (n < 0))
 (0 ≤ IntKind.wrap IntKind.i64 (first + root) ∧
 IntKind.wrap IntKind.i64 (first + root) < (↑datan : Int) ∧
 withAddr data fun (b o : Nat) =>
 ∃ (n : Int),
 Heap.cell h b (o + Int.toNat (IntKind.wrap IntKind.i64 (first + root))) = some (int IntKind.i64 n) ∧
 0 ≤ IntKind.wrap IntKind.i64 (first + IntKind.wrap IntKind.i64 (IntKind.wrap IntKind.i64 (IntKind.wrap IntKind.i64 (2 * root) + 1) + 1)) ∧
 IntKind.wrap IntKind.i64 (first + IntKind.wrap IntKind.i64 (IntKind.wrap IntKind.i64 (IntKind.wrap IntKind.i64 (2 * root) + 1) + 1)) < (↑datan : Int) ∧
 withAddr data fun (b o : Nat) =>
 ∃ (n_2 : Int),
 Heap.cell h b (o + Int.toNat (IntKind.wrap IntKind.i64 (first + IntKind.wrap IntKind.i64 (IntKind.wrap IntKind.i64 (IntKind.wrap IntKind.i64 (2 * root) + 1) + 1)))) =
 some (int IntKind.i64 n_2) ∧
 CallA Try.prog fn_split_by_order [agg #[slice cmp_0_0 cmp_0_0n cmp_0_0c], int IntKind.i64 n, int IntKind.i64 n_2] h fun (v : Value) (h : Heap) =>
 ∃ (n : Int),
 v = int IntKind.i64 n ∧
 Br (!decide (n < 0)) (Ret h K (tuple #[]))
 (0 ≤ IntKind.wrap IntKind.i64 (first + IntKind.wrap IntKind.i64 (IntKind.wrap IntKind.i64 (IntKind.wrap IntKind.i64 (2 * root) + 1) + 1)) ∧
 IntKind.wrap IntKind.i64 (first + IntKind.wrap IntKind.i64 (IntKind.wrap IntKind.i64 (IntKind.wrap IntKind.i64 (2 * root) + 1) + 1)) < (↑datan : Int) ∧
 withAddr data fun (b o : Nat) =>
 ∃ (n : Int),
 Heap.cell h b
 (o +
 Int.toNat
 (IntKind.wrap IntKind.i64 (first + IntKind.wrap IntKind.i64 (IntKind.wrap IntKind.i64 (IntKind.wrap IntKind.i64 (2 * root) + 1) + 1)))) =
 some (int IntKind.i64 n) ∧
 0 ≤ IntKind.wrap IntKind.i64 (first + root) ∧
 IntKind.wrap IntKind.i64 (first + root) < (↑datan : Int) ∧
 withAddr data fun (b o : Nat) =>
 ∃ (n_3 : Int),
 Heap.cell h b (o + Int.toNat (IntKind.wrap IntKind.i64 (first + root))) = some (int IntKind.i64 n_3) ∧
 0 ≤ IntKind.wrap IntKind.i64 (first + root) ∧
 IntKind.wrap IntKind.i64 (first + root) < (↑datan : Int) ∧
 withAddr data fun (b o : Nat) =>
 Heap.canSt h b (o + Int.toNat (IntKind.wrap IntKind.i64 (first + root))) 1 ∧
 0 ≤
 IntKind.wrap IntKind.i64
 (first + IntKind.wrap IntKind.i64 (IntKind.wrap IntKind.i64 (IntKind.wrap IntKind.i64 (2 * root) + 1) + 1)) ∧
 IntKind.wrap IntKind.i64
 (first + IntKind.wrap IntKind.i64 (IntKind.wrap IntKind.i64 (IntKind.wrap IntKind.i64 (2 * root) + 1) + 1)) <
 (↑datan : Int) ∧
 withAddr data fun (b_1 o_1 : Nat) =>
 Heap.canSt (Heap.setN h b (o + Int.toNat (IntKind.wrap IntKind.i64 (first + root))) [int IntKind.i64 n]) b_1
 (o_1 +
 Int.toNat
 (IntKind.wrap IntKind.i64
 (first + IntKind.wrap IntKind.i64 (IntKind.wrap IntKind.i64 (IntKind.wrap IntKind.i64 (2 * root) + 1) + 1))))
 1 ∧
 L_slices_siftDownCmpFunc_int_0 data datan datac hi first cmp_0_0 cmp_0_0n cmp_0_0c
 (IntKind.wrap IntKind.i64 (IntKind.wrap IntKind.i64 (IntKind.wrap IntKind.i64 (2 * root) + 1) + 1))
 (Heap.setN (Heap.setN h b (o + Int.toNat (IntKind.wrap IntKind.i64 (first + root))) [int IntKind.i64 n]) b_1
 (o_1 +
 Int.toNat
 (IntKind.wrap IntKind.i64
 (first + IntKind.wrap IntKind.i64 (IntKind.wrap IntKind.i64 (IntKind.wrap IntKind.i64 (2 * root) + 1) + 1))))
 [int IntKind.i64 n_3])
 K))
 (0 ≤ IntKind.wrap IntKind.i64 (first + root) ∧
 IntKind.wrap IntKind.i64 (first + root) < (↑datan : Int) ∧
 withAddr data fun (b o : Nat) =>
 ∃ (n : Int),
 Heap.cell h b (o + Int.toNat (IntKind.wrap IntKind.i64 (first + root))) = some (int IntKind.i64 n) ∧
 0 ≤ IntKind.wrap IntKind.i64 (first + IntKind.wrap IntKind.i64 (IntKind.wrap IntKind.i64 (2 * root) + 1)) ∧
 IntKind.wrap IntKind.i64 (first + IntKind.wrap IntKind.i64 (IntKind.wrap IntKind.i64 (2 * root) + 1)) < (↑datan : Int) ∧
 withAddr data fun (b o : Nat) =>
 ∃ (n_2 : Int),
 Heap.cell h b (o + Int.toNat (IntKind.wrap IntKind.i64 (first + IntKind.wrap IntKind.i64 (IntKind.wrap IntKind.i64 (2 * root) + 1)))) = some (int IntKind.i64 n_2) ∧
 CallA Try.prog fn_split_by_order [agg #[slice cmp_0_0 cmp_0_0n cmp_0_0c], int IntKind.i64 n, int IntKind.i64 n_2] h fun (v : Value) (h : Heap) =>
 ∃ (n : Int),
 v = int IntKind.i64 n ∧
 Br (!decide (n < 0)) (Ret h K (tuple #[]))
 (0 ≤ IntKind.wrap IntKind.i64 (first + IntKind.wrap IntKind.i64 (IntKind.wrap IntKind.i64 (2 * root) + 1)) ∧
 IntKind.wrap IntKind.i64 (first + IntKind.wrap IntKind.i64 (IntKind.wrap IntKind.i64 (2 * root) + 1)) < (↑datan : Int) ∧
 withAddr data fun (b o : Nat) =>
 ∃ (n : Int),
 Heap.cell h b (o + Int.toNat (IntKind.wrap IntKind.i64 (first + IntKind.wrap IntKind.i64 (IntKind.wrap IntKind.i64 (2 * root) + 1)))) =
 some (int IntKind.i64 n) ∧
 0 ≤ IntKind.wrap IntKind.i64 (first + root) ∧
 IntKind.wrap IntKind.i64 (first + root) < (↑datan : Int) ∧
 withAddr data fun (b o : Nat) =>
 ∃ (n_3 : Int),
 Heap.cell h b (o + Int.toNat (IntKind.wrap IntKind.i64 (first + root))) = some (int IntKind.i64 n_3) ∧
 0 ≤ IntKind.wrap IntKind.i64 (first + root) ∧
 IntKind.wrap IntKind.i64 (first + root) < (↑datan : Int) ∧
 withAddr data fun (b o : Nat) =>
 Heap.canSt h b (o + Int.toNat (IntKind.wrap IntKind.i64 (first + root))) 1 ∧
 0 ≤ IntKind.wrap IntKind.i64 (first + IntKind.wrap IntKind.i64 (IntKind.wrap IntKind.i64 (2 * root) + 1)) ∧
 IntKind.wrap IntKind.i64 (first + IntKind.wrap IntKind.i64 (IntKind.wrap IntKind.i64 (2 * root) + 1)) < (↑datan : Int) ∧
 withAddr data fun (b_1 o_1 : Nat) =>
 Heap.canSt (Heap.setN h b (o + Int.toNat (IntKind.wrap IntKind.i64 (first + root))) [int IntKind.i64 n]) b_1
 (o_1 + Int.toNat (IntKind.wrap IntKind.i64 (first + IntKind.wrap IntKind.i64 (IntKind.wrap IntKind.i64 (2 * root) + 1))))
 1 ∧
 L_slices_siftDownCmpFunc_int_0 data datan datac hi first cmp_0_0 cmp_0_0n cmp_0_0c
 (IntKind.wrap IntKind.i64 (IntKind.wrap IntKind.i64 (2 * root) + 1))
 (Heap.setN (Heap.setN h b (o + Int.toNat (IntKind.wrap IntKind.i64 (first + root))) [int IntKind.i64 n]) b_1
 (o_1 +
 Int.toNat (IntKind.wrap IntKind.i64 (first + IntKind.wrap IntKind.i64 (IntKind.wrap IntKind.i64 (2 * root) + 1))))
 [int IntKind.i64 n_3])
 K)))
 (0 ≤ IntKind.wrap IntKind.i64 (first + root) ∧
 IntKind.wrap IntKind.i64 (first + root) < (↑datan : Int) ∧
 withAddr data fun (b o : Nat) =>
 ∃ (n : Int),
 Heap.cell h b (o + Int.toNat (IntKind.wrap IntKind.i64 (first + root))) = some (int IntKind.i64 n) ∧
 0 ≤ IntKind.wrap IntKind.i64 (first + IntKind.wrap IntKind.i64 (IntKind.wrap IntKind.i64 (2 * root) + 1)) ∧
 IntKind.wrap IntKind.i64 (first + IntKind.wrap IntKind.i64 (IntKind.wrap IntKind.i64 (2 * root) + 1)) < (↑datan : Int) ∧
 withAddr data fun (b o : Nat) =>
 ∃ (n_1 : Int),
 Heap.cell h b (o + Int.toNat (IntKind.wrap IntKind.i64 (first + IntKind.wrap IntKind.i64 (IntKind.wrap IntKind.i64 (2 * root) + 1)))) = some (int IntKind.i64 n_1) ∧
 CallA Try.prog fn_split_by_order [agg #[slice cmp_0_0 cmp_0_0n cmp_0_0c], int IntKind.i64 n, int IntKind.i64 n_1] h fun (v : Value) (h : Heap) =>
 ∃ (n : Int),
 v = int IntKind.i64 n ∧
 Br (!decide (n < 0)) (Ret h K (tuple #[]))
 (0 ≤ IntKind.wrap IntKind.i64 (first + IntKind.wrap IntKind.i64 (IntKind.wrap IntKind.i64 (2 * root) + 1)) ∧
 IntKind.wrap IntKind.i64 (first + IntKind.wrap IntKind.i64 (IntKind.wrap IntKind.i64 (2 * root) + 1)) < (↑datan : Int) ∧
 withAddr data fun (b o : Nat) =>
 ∃ (n : Int),
 Heap.cell h b (o + Int.toNat (IntKind.wrap IntKind.i64 (first + IntKind.wrap IntKind.i64 (IntKind.wrap IntKind.i64 (2 * root) + 1)))) = some (int IntKind.i64 n) ∧
 0 ≤ IntKind.wrap IntKind.i64 (first + root) ∧
 IntKind.wrap IntKind.i64 (first + root) < (↑datan : Int) ∧
 withAddr data fun (b o : Nat) =>
 ∃ (n_2 : Int),
 Heap.cell h b (o + Int.toNat (IntKind.wrap IntKind.i64 (first + root))) = some (int IntKind.i64 n_2) ∧
 0 ≤ IntKind.wrap IntKind.i64 (first + root) ∧
 IntKind.wrap IntKind.i64 (first + root) < (↑datan : Int) ∧
 withAddr data fun (b o : Nat) =>
 Heap.canSt h b (o + Int.toNat (IntKind.wrap IntKind.i64 (first + root))) 1 ∧
 0 ≤ IntKind.wrap IntKind.i64 (first + IntKind.wrap IntKind.i64 (IntKind.wrap IntKind.i64 (2 * root) + 1)) ∧
 IntKind.wrap IntKind.i64 (first + IntKind.wrap IntKind.i64 (IntKind.wrap IntKind.i64 (2 * root) + 1)) < (↑datan : Int) ∧
 withAddr data fun (b_1 o_1 : Nat) =>
 Heap.canSt (Heap.setN h b (o + Int.toNat (IntKind.wrap IntKind.i64 (first + root))) [int IntKind.i64 n]) b_1
 (o_1 + Int.toNat (IntKind.wrap IntKind.i64 (first + IntKind.wrap IntKind.i64 (IntKind.wrap IntKind.i64 (2 * root) + 1)))) 1 ∧
 L_slices_siftDownCmpFunc_int_0 data datan datac hi first cmp_0_0 cmp_0_0n cmp_0_0c (IntKind.wrap IntKind.i64 (IntKind.wrap IntKind.i64 (2 * root) + 1))
 (Heap.setN (Heap.setN h b (o + Int.toNat (IntKind.wrap IntKind.i64 (first + root))) [int IntKind.i64 n]) b_1
 (o_1 + Int.toNat (IntKind.wrap IntKind.i64 (first + IntKind.wrap IntKind.i64 (IntKind.wrap IntKind.i64 (2 * root) + 1)))) [int IntKind.i64 n_2])
 K)))
theorem L_slices_siftDownCmpFunc_int_0r (data : Option Addr) (datan : Nat) (datac : Nat) (hi : Int) (first : Int) (cmp_0_0 : Option Addr) (cmp_0_0n : Nat) (cmp_0_0c : Nat) (root : Int) (h : Heap) (K : Value → Heap → Prop) (k : L_slices_siftDownCmpFunc_int_0T data datan datac hi first cmp_0_0 cmp_0_0n cmp_0_0c root h K) : L_slices_siftDownCmpFunc_int_0 data datan datac hi first cmp_0_0 cmp_0_0n cmp_0_0c root h K :=
 LoopAt.of_ev (cs := []) Try.func164 mixed (fun junk => by kernel_rfl) k
def F_slices_siftDownCmpFunc_intT (data : Option Addr) (datan : Nat) (datac : Nat) (lo : Int) (hi : Int) (first : Int) (cmp_0 : Option Addr) (cmp_0n : Nat) (cmp_0c : Nat) (h : Heap) (K : Value → Heap → Prop) : Prop :=
 L_slices_siftDownCmpFunc_int_0 data datan datac hi first cmp_0 cmp_0n cmp_0c lo h K
theorem F_slices_siftDownCmpFunc_int (data : Option Addr) (datan : Nat) (datac : Nat) (lo : Int) (hi : Int) (first : Int) (cmp_0 : Option Addr) (cmp_0n : Nat) (cmp_0c : Nat) (h : Heap) (K : Value → Heap → Prop) (k : F_slices_siftDownCmpFunc_intT data datan datac lo hi first cmp_0 cmp_0n cmp_0c h K) : CallA Try.prog fn_slices_siftDownCmpFunc_int [slice data datan datac, int IntKind.i64 lo, int IntKind.i64 hi, int IntKind.i64 first, func (Fn.func fn_split_by_order) #[agg #[slice cmp_0 cmp_0n cmp_0c]] #[]] h K :=
 CallA.of_ev (cs := []) Try.func164 (by kernel_rfl) (fun _ _ => Try.call164 _ _) mixed (by kernel_rfl) (by kernel_rfl) k
def L_slices_heapSortCmpFunc_int_0 (data : Option Addr) (datan : Nat) (datac : Nat) (cmp_0_0 : Option Addr) (cmp_0_0n : Nat) (cmp_0_0c : Nat) (first : Int) (lo : Int) (hi : Int) (i : Int) (h : Heap) (K : Value → Heap → Prop) : Prop :=
 LoopAt Try.prog Try.f138 138 (loopK Try.f138 0) (sp 60 [(0, slice data datan datac), (3, func (Fn.func fn_split_by_order) #[agg #[slice cmp_0_0 cmp_0_0n cmp_0_0c]] #[]), (8, int IntKind.i64 first), (9, int IntKind.i64 lo), (10, int IntKind.i64 hi), (11, int IntKind.i64 i)]) h K
def L_slices_heapSortCmpFunc_int_1 (data : Option Addr) (datan : Nat) (datac : Nat) (cmp_0_0 : Option Addr) (cmp_0_0n : Nat) (cmp_0_0c : Nat) (first : Int) (lo : Int) (i : Int) (h : Heap) (K : Value → Heap → Prop) : Prop :=
 LoopAt Try.prog Try.f138 138 (loopK Try.f138 1) (sp 60 [(0, slice data datan datac), (3, func (Fn.func fn_split_by_order) #[agg #[slice cmp_0_0 cmp_0_0n cmp_0_0c]] #[]), (8, int IntKind.i64 first), (9, int IntKind.i64 lo), (12, int IntKind.i64 i)]) h K
def L_slices_heapSortCmpFunc_int_0T (data : Option Addr) (datan : Nat) (datac : Nat) (cmp_0_0 : Option Addr) (cmp_0_0n : Nat) (cmp_0_0c : Nat) (first : Int) (lo : Int) (hi : Int) (i : Int) (h : Heap) (K : Value → Heap → Prop) : Prop :=
 Br (decide (i ≥ 0))
 (CallA Try.prog fn_slices_siftDownCmpFunc_int [slice data datan datac, int IntKind.i64 i, int IntKind.i64 hi, int IntKind.i64 first, func (Fn.func fn_split_by_order) #[agg #[slice cmp_0_0 cmp_0_0n cmp_0_0c]] #[]] h fun (v : Value) (h : Heap) =>
 v = tuple #[] ∧ L_slices_heapSortCmpFunc_int_0 data datan datac cmp_0_0 cmp_0_0n cmp_0_0c first lo hi (IntKind.wrap IntKind.i64 (i - 1)) h K)
 (L_slices_heapSortCmpFunc_int_1 data datan datac cmp_0_0 cmp_0_0n cmp_0_0c first lo (IntKind.wrap IntKind.i64 (hi - 1)) h K)
theorem L_slices_heapSortCmpFunc_int_0r (data : Option Addr) (datan : Nat) (datac : Nat) (cmp_0_0 : Option Addr) (cmp_0_0n : Nat) (cmp_0_0c : Nat) (first : Int) (lo : Int) (hi : Int) (i : Int) (h : Heap) (K : Value → Heap → Prop) (k : L_slices_heapSortCmpFunc_int_0T data datan datac cmp_0_0 cmp_0_0n cmp_0_0c first lo hi i h K) : L_slices_heapSortCmpFunc_int_0 data datan datac cmp_0_0 cmp_0_0n cmp_0_0c first lo hi i h K :=
 LoopAt.of_ev (cs := []) Try.func138 mixed (fun junk => by kernel_rfl) k
def L_slices_heapSortCmpFunc_int_1T (data : Option Addr) (datan : Nat) (datac : Nat) (cmp_0_0 : Option Addr) (cmp_0_0n : Nat) (cmp_0_0c : Nat) (first : Int) (lo : Int) (i : Int) (h : Heap) (K : Value → Heap → Prop) : Prop :=
 Br (decide (i ≥ 0))
 (0 ≤ IntKind.wrap IntKind.i64 (first + i) ∧
 IntKind.wrap IntKind.i64 (first + i) < (↑datan : Int) ∧
 withAddr data fun (b o : Nat) =>
 ∃ (n : Int),
 Heap.cell h b (o + Int.toNat (IntKind.wrap IntKind.i64 (first + i))) = some (int IntKind.i64 n) ∧
 0 ≤ first ∧
 first < (↑datan : Int) ∧
 withAddr data fun (b o : Nat) =>
 ∃ (n_1 : Int),
 Heap.cell h b (o + Int.toNat first) = some (int IntKind.i64 n_1) ∧
 0 ≤ first ∧
 first < (↑datan : Int) ∧
 withAddr data fun (b o : Nat) =>
 Heap.canSt h b (o + Int.toNat first) 1 ∧
 0 ≤ IntKind.wrap IntKind.i64 (first + i) ∧
 IntKind.wrap IntKind.i64 (first + i) < (↑datan : Int) ∧
 withAddr data fun (b_1 o_1 : Nat) =>
 Heap.canSt (Heap.setN h b (o + Int.toNat first) [int IntKind.i64 n]) b_1 (o_1 + Int.toNat (IntKind.wrap IntKind.i64 (first + i))) 1 ∧
 CallA Try.prog fn_slices_siftDownCmpFunc_int [slice data datan datac, int IntKind.i64 lo, int IntKind.i64 i, int IntKind.i64 first, func (Fn.func fn_split_by_order) #[agg #[slice cmp_0_0 cmp_0_0n cmp_0_0c]] #[]]
 (Heap.setN (Heap.setN h b (o + Int.toNat first) [int IntKind.i64 n]) b_1 (o_1 + Int.toNat (IntKind.wrap IntKind.i64 (first + i))) [int IntKind.i64 n_1])
 fun (v : Value) (h : Heap) => v = tuple #[] ∧ L_slices_heapSortCmpFunc_int_1 data datan datac cmp_0_0 cmp_0_0n cmp_0_0c first lo (IntKind.wrap IntKind.i64 (i - 1)) h K)
 (Ret h K (tuple #[]))
theorem L_slices_heapSortCmpFunc_int_1r (data : Option Addr) (datan : Nat) (datac : Nat) (cmp_0_0 : Option Addr) (cmp_0_0n : Nat) (cmp_0_0c : Nat) (first : Int) (lo : Int) (i : Int) (h : Heap) (K : Value → Heap → Prop) (k : L_slices_heapSortCmpFunc_int_1T data datan datac cmp_0_0 cmp_0_0n cmp_0_0c first lo i h K) : L_slices_heapSortCmpFunc_int_1 data datan datac cmp_0_0 cmp_0_0n cmp_0_0c first lo i h K :=
 LoopAt.of_ev (cs := []) Try.func138 mixed (fun junk => by kernel_rfl) k
def F_slices_heapSortCmpFunc_intT (data : Option Addr) (datan : Nat) (datac : Nat) (a : Int) (b : Int) (cmp_0 : Option Addr) (cmp_0n : Nat) (cmp_0c : Nat) (h : Heap) (K : Value → Heap → Prop) : Prop :=
 L_slices_heapSortCmpFunc_int_0 data datan datac cmp_0 cmp_0n cmp_0c a 0 (IntKind.wrap IntKind.i64 (b - a)) (IntKind.wrap IntKind.i64 (Int.tdiv (IntKind.wrap IntKind.i64 (IntKind.wrap IntKind.i64 (b - a) - 1)) 2)) h K
theorem F_slices_heapSortCmpFunc_int (data : Option Addr) (datan : Nat) (datac : Nat) (a : Int) (b : Int) (cmp_0 : Option Addr) (cmp_0n : Nat) (cmp_0c : Nat) (h : Heap) (K : Value → Heap → Prop) (k : F_slices_heapSortCmpFunc_intT data datan datac a b cmp_0 cmp_0n cmp_0c h K) : CallA Try.prog fn_slices_heapSortCmpFunc_int [slice data datan datac, int IntKind.i64 a, int IntKind.i64 b, func (Fn.func fn_split_by_order) #[agg #[slice cmp_0 cmp_0n cmp_0c]] #[]] h K :=
 CallA.of_ev (cs := []) Try.func138 (by kernel_rfl) (fun _ _ => Try.call138 _ _) mixed (by kernel_rfl) (by kernel_rfl) k
def L_slices_reverseRangeCmpFunc_int_0 (data : Option Addr) (datan : Nat) (datac : Nat) (i : Int) (j : Int) (h : Heap) (K : Value → Heap → Prop) : Prop :=
 LoopAt Try.prog Try.f141 141 (loopK Try.f141 0) (sp 34 [(0, slice data datan datac), (8, int IntKind.i64 i), (9, int IntKind.i64 j)]) h K
def L_slices_reverseRangeCmpFunc_int_0T (data : Option Addr) (datan : Nat) (datac : Nat) (i : Int) (j : Int) (h : Heap) (K : Value → Heap → Prop) : Prop :=
 Br (decide (i < j))
 (0 ≤ j ∧
 j < (↑datan : Int) ∧
 withAddr data fun (b o : Nat) =>
 ∃ (n : Int),
 Heap.cell h b (o + Int.toNat j) = some (int IntKind.i64 n) ∧
 0 ≤ i ∧
 i < (↑datan : Int) ∧
 withAddr data fun (b o : Nat) =>
 ∃ (n_1 : Int),
 Heap.cell h b (o + Int.toNat i) = some (int IntKind.i64 n_1) ∧
 0 ≤ i ∧
 i < (↑datan : Int) ∧
 withAddr data fun (b o : Nat) =>
 Heap.canSt h b (o + Int.toNat i) 1 ∧
 0 ≤ j ∧
 j < (↑datan : Int) ∧
 withAddr data fun (b_1 o_1 : Nat) =>
 Heap.canSt (Heap.setN h b (o + Int.toNat i) [int IntKind.i64 n]) b_1 (o_1 + Int.toNat j) 1 ∧
 L_slices_reverseRangeCmpFunc_int_0 data datan datac (IntKind.wrap IntKind.i64 (i + 1)) (IntKind.wrap IntKind.i64 (j - 1))
 (Heap.setN (Heap.setN h b (o + Int.toNat i) [int IntKind.i64 n]) b_1 (o_1 + Int.toNat j) [int IntKind.i64 n_1]) K)
 (Ret h K (tuple #[]))
theorem L_slices_reverseRangeCmpFunc_int_0r (data : Option Addr) (datan : Nat) (datac : Nat) (i : Int) (j : Int) (h : Heap) (K : Value → Heap → Prop) (k : L_slices_reverseRangeCmpFunc_int_0T data datan datac i j h K) : L_slices_reverseRangeCmpFunc_int_0 data datan datac i j h K :=
 LoopAt.of_ev (cs := []) Try.func141 mixed (fun junk => by kernel_rfl) k
def F_slices_reverseRangeCmpFunc_intT (data : Option Addr) (datan : Nat) (datac : Nat) (a : Int) (b : Int) (cmp_0 : Option Addr) (cmp_0n : Nat) (cmp_0c : Nat) (h : Heap) (K : Value → Heap → Prop) : Prop :=
 L_slices_reverseRangeCmpFunc_int_0 data datan datac a (IntKind.wrap IntKind.i64 (b - 1)) h K
theorem F_slices_reverseRangeCmpFunc_int (data : Option Addr) (datan : Nat) (datac : Nat) (a : Int) (b : Int) (cmp_0 : Option Addr) (cmp_0n : Nat) (cmp_0c : Nat) (h : Heap) (K : Value → Heap → Prop) (k : F_slices_reverseRangeCmpFunc_intT data datan datac a b cmp_0 cmp_0n cmp_0c h K) : CallA Try.prog fn_slices_reverseRangeCmpFunc_int [slice data datan datac, int IntKind.i64 a, int IntKind.i64 b, func (Fn.func fn_split_by_order) #[agg #[slice cmp_0 cmp_0n cmp_0c]] #[]] h K :=
 CallA.of_ev (cs := []) Try.func141 (by kernel_rfl) (fun _ _ => Try.call141 _ _) mixed (by kernel_rfl) (by kernel_rfl) k
end Go.Proofs.Ytghdadniddoboaa
