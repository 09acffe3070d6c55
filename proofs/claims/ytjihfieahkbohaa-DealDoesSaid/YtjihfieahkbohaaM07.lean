import Derived.Test.YtjihfieahkbohaaM03
namespace Go.Proofs.Ytjihfieahkbohaa
open Go Go.Sy Go.Value
set_option linter.unusedVariables false
set_option maxRecDepth 100000
def L_slices_insertionSortOrdered_int_0 (data : Option Addr) (datan : Nat) (datac : Nat) (a : Int) (b : Int) (i : Int) (h : Heap) (K : Value → Heap → Prop) : Prop :=
 LoopAt Try.prog Try.f93 93 (loopK Try.f93 0) (sp 49 [(0, slice data datan datac), (1, int IntKind.i64 a), (2, int IntKind.i64 b), (6, int IntKind.i64 i)]) h K
def L_slices_insertionSortOrdered_int_1 (data : Option Addr) (datan : Nat) (datac : Nat) (a : Int) (b : Int) (i : Int) (j : Int) (h : Heap) (K : Value → Heap → Prop) : Prop :=
 LoopAt Try.prog Try.f93 93 (loopK Try.f93 1) (sp 49 [(0, slice data datan datac), (1, int IntKind.i64 a), (2, int IntKind.i64 b), (6, int IntKind.i64 i), (7, int IntKind.i64 j)]) h K
def L_slices_insertionSortOrdered_int_0T (data : Option Addr) (datan : Nat) (datac : Nat) (a : Int) (b : Int) (i : Int) (h : Heap) (K : Value → Heap → Prop) : Prop :=
 Br (decide (i < b)) (L_slices_insertionSortOrdered_int_1 data datan datac a b i i h K) (Ret h K (tuple #[]))
theorem L_slices_insertionSortOrdered_int_0r (data : Option Addr) (datan : Nat) (datac : Nat) (a : Int) (b : Int) (i : Int) (h : Heap) (K : Value → Heap → Prop) (k : L_slices_insertionSortOrdered_int_0T data datan datac a b i h K) : L_slices_insertionSortOrdered_int_0 data datan datac a b i h K :=
 LoopAt.of_ev (cs := []) Try.func93 mixed (fun junk => by kernel_rfl) k
def L_slices_insertionSortOrdered_int_1T (data : Option Addr) (datan : Nat) (datac : Nat) (a : Int) (b : Int) (i : Int) (j : Int) (h : Heap) (K : Value → Heap → Prop) : Prop :=
 Br (decide (j > a))
 (0 ≤ j ∧
 j < (↑datan : Int) ∧
 withAddr data fun (b_1 o : Nat) =>
 ∃ (n : Int),
 Heap.cell h b_1 (o + Int.toNat j) = some (int IntKind.i64 n) ∧
 0 ≤ IntKind.wrap IntKind.i64 (j - 1) ∧
 IntKind.wrap IntKind.i64 (j - 1) < (↑datan : Int) ∧
 withAddr data fun (b_2 o : Nat) =>
 ∃ (n_1 : Int),
 Heap.cell h b_2 (o + Int.toNat (IntKind.wrap IntKind.i64 (j - 1))) = some (int IntKind.i64 n_1) ∧
 CallA Try.prog fn_cmp_Less_int [int IntKind.i64 n, int IntKind.i64 n_1] h fun (v : Value) (h : Heap) =>
 ∃ (b_3 : Bool),
 v = Value.bool b_3 ∧
 Br b_3
 (0 ≤ IntKind.wrap IntKind.i64 (j - 1) ∧
 IntKind.wrap IntKind.i64 (j - 1) < (↑datan : Int) ∧
 withAddr data fun (b_4 o : Nat) =>
 ∃ (n : Int),
 Heap.cell h b_4 (o + Int.toNat (IntKind.wrap IntKind.i64 (j - 1))) = some (int IntKind.i64 n) ∧
 0 ≤ j ∧
 j < (↑datan : Int) ∧
 withAddr data fun (b_5 o : Nat) =>
 ∃ (n_2 : Int),
 Heap.cell h b_5 (o + Int.toNat j) = some (int IntKind.i64 n_2) ∧
 0 ≤ j ∧
 j < (↑datan : Int) ∧
 withAddr data fun (b_6 o : Nat) =>
 Heap.canSt h b_6 (o + Int.toNat j) 1 ∧
 0 ≤ IntKind.wrap IntKind.i64 (j - 1) ∧
 IntKind.wrap IntKind.i64 (j - 1) < (↑datan : Int) ∧
 withAddr data fun (b_7 o_1 : Nat) =>
 Heap.canSt (Heap.setN h b_6 (o + Int.toNat j) [int IntKind.i64 n]) b_7 (o_1 + Int.toNat (IntKind.wrap IntKind.i64 (j - 1))) 1 ∧
 L_slices_insertionSortOrdered_int_1 data datan datac a b i (IntKind.wrap IntKind.i64 (j - 1))
 (Heap.setN (Heap.setN h b_6 (o + Int.toNat j) [int IntKind.i64 n]) b_7 (o_1 + Int.toNat (IntKind.wrap IntKind.i64 (j - 1))) [int IntKind.i64 n_2]) K)
 (L_slices_insertionSortOrdered_int_0 data datan datac a b (IntKind.wrap IntKind.i64 (i + 1)) h K))
 (L_slices_insertionSortOrdered_int_0 data datan datac a b (IntKind.wrap IntKind.i64 (i + 1)) h K)
theorem L_slices_insertionSortOrdered_int_1r (data : Option Addr) (datan : Nat) (datac : Nat) (a : Int) (b : Int) (i : Int) (j : Int) (h : Heap) (K : Value → Heap → Prop) (k : L_slices_insertionSortOrdered_int_1T data datan datac a b i j h K) : L_slices_insertionSortOrdered_int_1 data datan datac a b i j h K :=
 LoopAt.of_ev (cs := []) Try.func93 mixed (fun junk => by kernel_rfl) k
def F_slices_insertionSortOrdered_intT (data : Option Addr) (datan : Nat) (datac : Nat) (a : Int) (b : Int) (h : Heap) (K : Value → Heap → Prop) : Prop :=
 L_slices_insertionSortOrdered_int_0 data datan datac a b (IntKind.wrap IntKind.i64 (a + 1)) h K
theorem F_slices_insertionSortOrdered_int (data : Option Addr) (datan : Nat) (datac : Nat) (a : Int) (b : Int) (h : Heap) (K : Value → Heap → Prop) (k : F_slices_insertionSortOrdered_intT data datan datac a b h K) : CallA Try.prog fn_slices_insertionSortOrdered_int [slice data datan datac, int IntKind.i64 a, int IntKind.i64 b] h K :=
 CallA.of_ev (cs := []) Try.func93 (by kernel_rfl) (fun _ _ => Try.call93 _ _) mixed (by kernel_rfl) (by kernel_rfl) k
def L_slices_siftDownOrdered_int_0 (data : Option Addr) (datan : Nat) (datac : Nat) (hi : Int) (first : Int) (root : Int) (h : Heap) (K : Value → Heap → Prop) : Prop :=
 LoopAt Try.prog Try.f117 117 (loopK Try.f117 0) (sp 76 [(0, slice data datan datac), (2, int IntKind.i64 hi), (3, int IntKind.i64 first), (8, int IntKind.i64 root)]) h K
def L_slices_siftDownOrdered_int_0T (data : Option Addr) (datan : Nat) (datac : Nat) (hi : Int) (first : Int) (root : Int) (h : Heap) (K : Value → Heap → Prop) : Prop :=
 Br (decide (IntKind.wrap IntKind.i64 (IntKind.wrap IntKind.i64 (2 * root) + 1) ≥ hi)) (Ret h K (tuple #[]))
 (Br (decide (IntKind.wrap IntKind.i64 (IntKind.wrap IntKind.i64 (IntKind.wrap IntKind.i64 (2 * root) + 1) + 1) < hi))
 (0 ≤ IntKind.wrap IntKind.i64 (first + IntKind.wrap IntKind.i64 (IntKind.wrap IntKind.i64 (2 * root) + 1)) ∧
 IntKind.wrap IntKind.i64 (first + IntKind.wrap IntKind.i64 (IntKind.wrap IntKind.i64 (2 * root) + 1)) < (↑datan : Int) ∧
 withAddr data fun (b o : Nat) =>
 ∃ (n : Int),
 Heap.cell h b (o + Int.toNat (IntKind.wrap IntKind.i64 (first + IntKind.wrap IntKind.i64 (IntKind.wrap IntKind.i64 (2 * root) + 1)))) = some (int IntKind.i64 n) ∧
 0 ≤ IntKind.wrap IntKind.i64 (IntKind.wrap IntKind.i64 (first + IntKind.wrap IntKind.i64 (IntKind.wrap IntKind.i64 (2 * root) + 1)) + 1) ∧
 IntKind.wrap IntKind.i64 (IntKind.wrap IntKind.i64 (first + IntKind.wrap IntKind.i64 (IntKind.wrap IntKind.i64 (2 * root) + 1)) + 1) < (↑datan : Int) ∧
 withAddr data fun (b o : Nat) =>
 ∃ (n_1 : Int),
 Heap.cell h b (o + Int.toNat (IntKind.wrap IntKind.i64 (IntKind.wrap IntKind.i64 (first + IntKind.wrap IntKind.i64 (IntKind.wrap IntKind.i64 (2 * root) + 1)) + 1))) = some (int IntKind.i64 n_1) ∧
 CallA Try.prog fn_cmp_Less_int [int IntKind.i64 n, int IntKind.i64 n_1] h fun (v : Value) (h : Heap) =>
 ∃ (b : Bool),
 v = Value.bool b ∧
 Br b
 (0 ≤ IntKind.wrap IntKind.i64 (first + root) ∧
 IntKind.wrap IntKind.i64 (first + root) < (↑datan : Int) ∧
 withAddr data fun (b o : Nat) =>
 ∃ (n : Int),
 Heap.cell h b (o + Int.toNat (IntKind.wrap IntKind.i64 (first + root))) = some (int IntKind.i64 n) ∧
 0 ≤ IntKind.wrap IntKind.i64 (first + IntKind.wrap IntKind.i64 (IntKind.wrap IntKind.i64 (IntKind.wrap IntKind.i64 (2 * root) + 1) + 1)) ∧
 IntKind.wrap IntKind.i64 (first + IntKind.wrap IntKind.i64 (IntKind.wrap IntKind.i64 (IntKind.wrap IntKind.i64 (2 * root) + 1) + 1)) < (↑datan : Int) ∧
 withAddr data fun (b o : Nat) =>
 ∃ (n_2 : Int),
 Heap.cell h b (o + Int.toNat (IntKind.wrap IntKind.i64 (first + IntKind.wrap IntKind.i64 (IntKind.wrap IntKind.i64 (IntKind.wrap IntKind.i64 (2 * root) + 1) + 1)))) =
 some (int IntKind.i64 n_2) ∧
 CallA Try.prog fn_cmp_Less_int [int IntKind.i64 n, int IntKind.i64 n_2] h fun (v : Value) (h : Heap) =>
 ∃ (b : Bool),
 v = Value.bool b ∧
 Br (!b) (Ret h K (tuple #[]))
 (0 ≤ IntKind.wrap IntKind.i64 (first + IntKind.wrap IntKind.i64 (IntKind.wrap IntKind.i64 (IntKind.wrap IntKind.i64 (2 * root) + 1) + 1)) ∧
 IntKind.wrap IntKind.i64 (first + IntKind.wrap IntKind.i64 (IntKind.wrap IntKind.i64 (IntKind.wrap IntKind.i64 (2 * root) + 1) + 1)) < (↑datan : Int) ∧
 withAddr data fun (b o : Nat) =>
 ∃ (n : Int),
 Heap.cell h b
 (o +
 Int.toNat
 (IntKind.wrap IntKind.i64 (first + IntKind.wrap IntKind.i64 (IntKind.wrap IntKind.i64 (IntKind.wrap IntKind.i64 (2 * root) + 1) + 1)))) =
 some (int IntKind.i64 n) ∧
 0 ≤ IntKind.wrap IntKind.i64 (first + root) ∧
 IntKind.wrap IntKind.i64 (first + root) < (↑datan : Int) ∧
 withAddr data fun (b o : Nat) =>
 ∃ (n_3 : Int),
 Heap.cell h b (o + Int.toNat (IntKind.wrap IntKind.i64 (first + root))) = some (int IntKind.i64 n_3) ∧
 0 ≤ IntKind.wrap IntKind.i64 (first + root) ∧
 IntKind.wrap IntKind.i64 (first + root) < (↑datan : Int) ∧
 withAddr data fun (b o : Nat) =>
 Heap.canSt h b (o + Int.toNat (IntKind.wrap IntKind.i64 (first + root))) 1 ∧
 0 ≤
 IntKind.wrap IntKind.i64
 (first + IntKind.wrap IntKind.i64 (IntKind.wrap IntKind.i64 (IntKind.wrap IntKind.i64 (2 * root) + 1) + 1)) ∧
 IntKind.wrap IntKind.i64
 (first + IntKind.wrap IntKind.i64 (IntKind.wrap IntKind.i64 (IntKind.wrap IntKind.i64 (2 * root) + 1) + 1)) <
 (↑datan : Int) ∧
 withAddr data fun (b_1 o_1 : Nat) =>
 Heap.canSt (Heap.setN h b (o + Int.toNat (IntKind.wrap IntKind.i64 (first + root))) [int IntKind.i64 n]) b_1
 (o_1 +
 Int.toNat
 (IntKind.wrap IntKind.i64
 (first + IntKind.wrap IntKind.i64 (IntKind.wrap IntKind.i64 (IntKind.wrap IntKind.i64 (2 * root) + 1) + 1))))
 1 ∧
 L_slices_siftDownOrdered_int_0 data datan datac hi first
 (IntKind.wrap IntKind.i64 (IntKind.wrap IntKind.i64 (IntKind.wrap IntKind.i64 (2 * root) + 1) + 1))
 (Heap.setN (Heap.setN h b (o + Int.toNat (IntKind.wrap IntKind.i64 (first + root))) [int IntKind.i64 n]) b_1
 (o_1 +
 Int.toNat
 (IntKind.wrap IntKind.i64
 (first + IntKind.wrap IntKind.i64 (IntKind.wrap IntKind.i64 (IntKind.wrap IntKind.i64 (2 * root) + 1) + 1))))
 [int IntKind.i64 n_3])
 K))
 (0 ≤ IntKind.wrap IntKind.i64 (first + root) ∧
 IntKind.wrap IntKind.i64 (first + root) < (↑datan : Int) ∧
 withAddr data fun (b o : Nat) =>
 ∃ (n : Int),
 Heap.cell h b (o + Int.toNat (IntKind.wrap IntKind.i64 (first + root))) = some (int IntKind.i64 n) ∧
 0 ≤ IntKind.wrap IntKind.i64 (first + IntKind.wrap IntKind.i64 (IntKind.wrap IntKind.i64 (2 * root) + 1)) ∧
 IntKind.wrap IntKind.i64 (first + IntKind.wrap IntKind.i64 (IntKind.wrap IntKind.i64 (2 * root) + 1)) < (↑datan : Int) ∧
 withAddr data fun (b o : Nat) =>
 ∃ (n_2 : Int),
 Heap.cell h b (o + Int.toNat (IntKind.wrap IntKind.i64 (first + IntKind.wrap IntKind.i64 (IntKind.wrap IntKind.i64 (2 * root) + 1)))) = some (int IntKind.i64 n_2) ∧
 CallA Try.prog fn_cmp_Less_int [int IntKind.i64 n, int IntKind.i64 n_2] h fun (v : Value) (h : Heap) =>
 ∃ (b : Bool),
 v = Value.bool b ∧
 Br (!b) (Ret h K (tuple #[]))
 (0 ≤ IntKind.wrap IntKind.i64 (first + IntKind.wrap IntKind.i64 (IntKind.wrap IntKind.i64 (2 * root) + 1)) ∧
 IntKind.wrap IntKind.i64 (first + IntKind.wrap IntKind.i64 (IntKind.wrap IntKind.i64 (2 * root) + 1)) < (↑datan : Int) ∧
 withAddr data fun (b o : Nat) =>
 ∃ (n : Int),
 Heap.cell h b (o + Int.toNat (IntKind.wrap IntKind.i64 (first + IntKind.wrap IntKind.i64 (IntKind.wrap IntKind.i64 (2 * root) + 1)))) =
 some (int IntKind.i64 n) ∧
 0 ≤ IntKind.wrap IntKind.i64 (first + root) ∧
 IntKind.wrap IntKind.i64 (first + root) < (↑datan : Int) ∧
 withAddr data fun (b o : Nat) =>
 ∃ (n_3 : Int),
 Heap.cell h b (o + Int.toNat (IntKind.wrap IntKind.i64 (first + root))) = some (int IntKind.i64 n_3) ∧
 0 ≤ IntKind.wrap IntKind.i64 (first + root) ∧
 IntKind.wrap IntKind.i64 (first + root) < (↑datan : Int) ∧
 withAddr data fun (b o : Nat) =>
 Heap.canSt h b (o + Int.toNat (IntKind.wrap IntKind.i64 (first + root))) 1 ∧
 0 ≤ IntKind.wrap IntKind.i64 (first + IntKind.wrap IntKind.i64 (IntKind.wrap IntKind.i64 (2 * root) + 1)) ∧
 IntKind.wrap IntKind.i64 (first + IntKind.wrap IntKind.i64 (IntKind.wrap IntKind.i64 (2 * root) + 1)) < (↑datan : Int) ∧
 withAddr data fun (b_1 o_1 : Nat) =>
 Heap.canSt (Heap.setN h b (o + Int.toNat (IntKind.wrap IntKind.i64 (first + root))) [int IntKind.i64 n]) b_1
 (o_1 + Int.toNat (IntKind.wrap IntKind.i64 (first + IntKind.wrap IntKind.i64 (IntKind.wrap IntKind.i64 (2 * root) + 1))))
 1 ∧
 L_slices_siftDownOrdered_int_0 data datan datac hi first (IntKind.wrap IntKind.i64 (IntKind.wrap IntKind.i64 (2 * root) + 1))
 (Heap.setN (Heap.setN h b (o + Int.toNat (IntKind.wrap IntKind.i64 (first + root))) [int IntKind.i64 n]) b_1
 (o_1 +
 Int.toNat (IntKind.wrap IntKind.i64 (first + IntKind.wrap IntKind.i64 (IntKind.wrap IntKind.i64 (2 * root) + 1))))
 [int IntKind.i64 n_3])
 K)))
 (0 ≤ IntKind.wrap IntKind.i64 (first + root) ∧
 IntKind.wrap IntKind.i64 (first + root) < (↑datan : Int) ∧
 withAddr data fun (b o : Nat) =>
 ∃ (n : Int),
 Heap.cell h b (o + Int.toNat (IntKind.wrap IntKind.i64 (first + root))) = some (int IntKind.i64 n) ∧
 0 ≤ IntKind.wrap IntKind.i64 (first + IntKind.wrap IntKind.i64 (IntKind.wrap IntKind.i64 (2 * root) + 1)) ∧
 IntKind.wrap IntKind.i64 (first + IntKind.wrap IntKind.i64 (IntKind.wrap IntKind.i64 (2 * root) + 1)) < (↑datan : Int) ∧
 withAddr data fun (b o : Nat) =>
 ∃ (n_1 : Int),
 Heap.cell h b (o + Int.toNat (IntKind.wrap IntKind.i64 (first + IntKind.wrap IntKind.i64 (IntKind.wrap IntKind.i64 (2 * root) + 1)))) = some (int IntKind.i64 n_1) ∧
 CallA Try.prog fn_cmp_Less_int [int IntKind.i64 n, int IntKind.i64 n_1] h fun (v : Value) (h : Heap) =>
 ∃ (b : Bool),
 v = Value.bool b ∧
 Br (!b) (Ret h K (tuple #[]))
 (0 ≤ IntKind.wrap IntKind.i64 (first + IntKind.wrap IntKind.i64 (IntKind.wrap IntKind.i64 (2 * root) + 1)) ∧
 IntKind.wrap IntKind.i64 (first + IntKind.wrap IntKind.i64 (IntKind.wrap IntKind.i64 (2 * root) + 1)) < (↑datan : Int) ∧
 withAddr data fun (b o : Nat) =>
 ∃ (n : Int),
 Heap.cell h b (o + Int.toNat (IntKind.wrap IntKind.i64 (first + IntKind.wrap IntKind.i64 (IntKind.wrap IntKind.i64 (2 * root) + 1)))) = some (int IntKind.i64 n) ∧
 0 ≤ IntKind.wrap IntKind.i64 (first + root) ∧
 IntKind.wrap IntKind.i64 (first + root) < (↑datan : Int) ∧
 withAddr data fun (b o : Nat) =>
 ∃ (n_2 : Int),
 Heap.cell h b (o + Int.toNat (IntKind.wrap IntKind.i64 (first + root))) = some (int IntKind.i64 n_2) ∧
 0 ≤ IntKind.wrap IntKind.i64 (first + root) ∧
 IntKind.wrap IntKind.i64 (first + root) < (↑datan : Int) ∧
 withAddr data fun (b o : Nat) =>
 Heap.canSt h b (o + Int.toNat (IntKind.wrap IntKind.i64 (first + root))) 1 ∧
 0 ≤ IntKind.wrap IntKind.i64 (first + IntKind.wrap IntKind.i64 (IntKind.wrap IntKind.i64 (2 * root) + 1)) ∧
 IntKind.wrap IntKind.i64 (first + IntKind.wrap IntKind.i64 (IntKind.wrap IntKind.i64 (2 * root) + 1)) < (↑datan : Int) ∧
 withAddr data fun (b_1 o_1 : Nat) =>
 Heap.canSt (Heap.setN h b (o + Int.toNat (IntKind.wrap IntKind.i64 (first + root))) [int IntKind.i64 n]) b_1
 (o_1 + Int.toNat (IntKind.wrap IntKind.i64 (first + IntKind.wrap IntKind.i64 (IntKind.wrap IntKind.i64 (2 * root) + 1)))) 1 ∧
 L_slices_siftDownOrdered_int_0 data datan datac hi first (IntKind.wrap IntKind.i64 (IntKind.wrap IntKind.i64 (2 * root) + 1))
 (Heap.setN (Heap.setN h b (o + Int.toNat (IntKind.wrap IntKind.i64 (first + root))) [int IntKind.i64 n]) b_1
 (o_1 + Int.toNat (IntKind.wrap IntKind.i64 (first + IntKind.wrap IntKind.i64 (IntKind.wrap IntKind.i64 (2 * root) + 1)))) [int IntKind.i64 n_2])
 K)))
theorem L_slices_siftDownOrdered_int_0r (data : Option Addr) (datan : Nat) (datac : Nat) (hi : Int) (first : Int) (root : Int) (h : Heap) (K : Value → Heap → Prop) (k : L_slices_siftDownOrdered_int_0T data datan datac hi first root h K) : L_slices_siftDownOrdered_int_0 data datan datac hi first root h K :=
 LoopAt.of_ev (cs := []) Try.func117 mixed (fun junk => by kernel_rfl) k
def F_slices_siftDownOrdered_intT (data : Option Addr) (datan : Nat) (datac : Nat) (lo : Int) (hi : Int) (first : Int) (h : Heap) (K : Value → Heap → Prop) : Prop :=
 L_slices_siftDownOrdered_int_0 data datan datac hi first lo h K
theorem F_slices_siftDownOrdered_int (data : Option Addr) (datan : Nat) (datac : Nat) (lo : Int) (hi : Int) (first : Int) (h : Heap) (K : Value → Heap → Prop) (k : F_slices_siftDownOrdered_intT data datan datac lo hi first h K) : CallA Try.prog fn_slices_siftDownOrdered_int [slice data datan datac, int IntKind.i64 lo, int IntKind.i64 hi, int IntKind.i64 first] h K :=
 CallA.of_ev (cs := []) Try.func117 (by kernel_rfl) (fun _ _ => Try.call117 _ _) mixed (by kernel_rfl) (by kernel_rfl) k
def L_slices_heapSortOrdered_int_0 (data : Option Addr) (datan : Nat) (datac : Nat) (first : Int) (lo : Int) (hi : Int) (i : Int) (h : Heap) (K : Value → Heap → Prop) : Prop :=
 LoopAt Try.prog Try.f94 94 (loopK Try.f94 0) (sp 56 [(0, slice data datan datac), (6, int IntKind.i64 first), (7, int IntKind.i64 lo), (8, int IntKind.i64 hi), (9, int IntKind.i64 i)]) h K
def L_slices_heapSortOrdered_int_1 (data : Option Addr) (datan : Nat) (datac : Nat) (first : Int) (lo : Int) (i : Int) (h : Heap) (K : Value → Heap → Prop) : Prop :=
 LoopAt Try.prog Try.f94 94 (loopK Try.f94 1) (sp 56 [(0, slice data datan datac), (6, int IntKind.i64 first), (7, int IntKind.i64 lo), (10, int IntKind.i64 i)]) h K
def L_slices_heapSortOrdered_int_0T (data : Option Addr) (datan : Nat) (datac : Nat) (first : Int) (lo : Int) (hi : Int) (i : Int) (h : Heap) (K : Value → Heap → Prop) : Prop :=
 Br (decide (i ≥ 0))
 (CallA Try.prog fn_slices_siftDownOrdered_int [slice data datan datac, int IntKind.i64 i, int IntKind.i64 hi, int IntKind.i64 first] h fun (v : Value) (h : Heap) =>
 v = tuple #[] ∧ L_slices_heapSortOrdered_int_0 data datan datac first lo hi (IntKind.wrap IntKind.i64 (i - 1)) h K)
 (L_slices_heapSortOrdered_int_1 data datan datac first lo (IntKind.wrap IntKind.i64 (hi - 1)) h K)
theorem L_slices_heapSortOrdered_int_0r (data : Option Addr) (datan : Nat) (datac : Nat) (first : Int) (lo : Int) (hi : Int) (i : Int) (h : Heap) (K : Value → Heap → Prop) (k : L_slices_heapSortOrdered_int_0T data datan datac first lo hi i h K) : L_slices_heapSortOrdered_int_0 data datan datac first lo hi i h K :=
 LoopAt.of_ev (cs := []) Try.func94 mixed (fun junk => by kernel_rfl) k
def L_slices_heapSortOrdered_int_1T (data : Option Addr) (datan : Nat) (datac : Nat) (first : Int) (lo : Int) (i : Int) (h : Heap) (K : Value → Heap → Prop) : Prop :=
 Br (decide (i ≥ 0))
 (0 ≤ IntKind.wrap IntKind.i64 (first + i) ∧
 IntKind.wrap IntKind.i64 (first + i) < (↑datan : Int) ∧
 withAddr data fun (b o : Nat) =>
 ∃ (n : Int),
 Heap.cell h b (o + Int.toNat (IntKind.wrap IntKind.i64 (first + i))) = some (int IntKind.i64 n) ∧
 0 ≤ first ∧
 first < (↑datan : Int) ∧
 withAddr data fun (b o : Nat) =>
 ∃ (n_1 : Int),
 Heap.cell h b (o + Int.toNat first) = some (int IntKind.i64 n_1) ∧
 0 ≤ first ∧
 first < (↑datan : Int) ∧
 withAddr data fun (b o : Nat) =>
 Heap.canSt h b (o + Int.toNat first) 1 ∧
 0 ≤ IntKind.wrap IntKind.i64 (first + i) ∧
 IntKind.wrap IntKind.i64 (first + i) < (↑datan : Int) ∧
 withAddr data fun (b_1 o_1 : Nat) =>
 Heap.canSt (Heap.setN h b (o + Int.toNat first) [int IntKind.i64 n]) b_1 (o_1 + Int.toNat (IntKind.wrap IntKind.i64 (first + i))) 1 ∧
 CallA Try.prog fn_slices_siftDownOrdered_int [slice data datan datac, int IntKind.i64 lo, int IntKind.i64 i, int IntKind.i64 first]
 (Heap.setN (Heap.setN h b (o + Int.toNat first) [int IntKind.i64 n]) b_1 (o_1 + Int.toNat (IntKind.wrap IntKind.i64 (first + i))) [int IntKind.i64 n_1])
 fun (v : Value) (h : Heap) => v = tuple #[] ∧ L_slices_heapSortOrdered_int_1 data datan datac first lo (IntKind.wrap IntKind.i64 (i - 1)) h K)
 (Ret h K (tuple #[]))
theorem L_slices_heapSortOrdered_int_1r (data : Option Addr) (datan : Nat) (datac : Nat) (first : Int) (lo : Int) (i : Int) (h : Heap) (K : Value → Heap → Prop) (k : L_slices_heapSortOrdered_int_1T data datan datac first lo i h K) : L_slices_heapSortOrdered_int_1 data datan datac first lo i h K :=
 LoopAt.of_ev (cs := []) Try.func94 mixed (fun junk => by kernel_rfl) k
def F_slices_heapSortOrdered_intT (data : Option Addr) (datan : Nat) (datac : Nat) (a : Int) (b : Int) (h : Heap) (K : Value → Heap → Prop) : Prop :=
 L_slices_heapSortOrdered_int_0 data datan datac a 0 (IntKind.wrap IntKind.i64 (b - a)) (IntKind.wrap IntKind.i64 (Int.tdiv (IntKind.wrap IntKind.i64 (IntKind.wrap IntKind.i64 (b - a) - 1)) 2)) h K
theorem F_slices_heapSortOrdered_int (data : Option Addr) (datan : Nat) (datac : Nat) (a : Int) (b : Int) (h : Heap) (K : Value → Heap → Prop) (k : F_slices_heapSortOrdered_intT data datan datac a b h K) : CallA Try.prog fn_slices_heapSortOrdered_int [slice data datan datac, int IntKind.i64 a, int IntKind.i64 b] h K :=
 CallA.of_ev (cs := []) Try.func94 (by kernel_rfl) (fun _ _ => Try.call94 _ _) mixed (by kernel_rfl) (by kernel_rfl) k
def L_slices_reverseRangeOrdered_int_0 (data : Option Addr) (datan : Nat) (datac : Nat) (i : Int) (j : Int) (h : Heap) (K : Value → Heap → Prop) : Prop :=
 LoopAt Try.prog Try.f97 97 (loopK Try.f97 0) (sp 32 [(0, slice data datan datac), (6, int IntKind.i64 i), (7, int IntKind.i64 j)]) h K
def L_slices_reverseRangeOrdered_int_0T (data : Option Addr) (datan : Nat) (datac : Nat) (i : Int) (j : Int) (h : Heap) (K : Value → Heap → Prop) : Prop :=
 Br (decide (i < j))
 (0 ≤ j ∧
 j < (↑datan : Int) ∧
 withAddr data fun (b o : Nat) =>
 ∃ (n : Int),
 Heap.cell h b (o + Int.toNat j) = some (int IntKind.i64 n) ∧
 0 ≤ i ∧
 i < (↑datan : Int) ∧
 withAddr data fun (b o : Nat) =>
 ∃ (n_1 : Int),
 Heap.cell h b (o + Int.toNat i) = some (int IntKind.i64 n_1) ∧
 0 ≤ i ∧
 i < (↑datan : Int) ∧
 withAddr data fun (b o : Nat) =>
 Heap.canSt h b (o + Int.toNat i) 1 ∧
 0 ≤ j ∧
 j < (↑datan : Int) ∧
 withAddr data fun (b_1 o_1 : Nat) =>
 Heap.canSt (Heap.setN h b (o + Int.toNat i) [int IntKind.i64 n]) b_1 (o_1 + Int.toNat j) 1 ∧
 L_slices_reverseRangeOrdered_int_0 data datan datac (IntKind.wrap IntKind.i64 (i + 1)) (IntKind.wrap IntKind.i64 (j - 1))
 (Heap.setN (Heap.setN h b (o + Int.toNat i) [int IntKind.i64 n]) b_1 (o_1 + Int.toNat j) [int IntKind.i64 n_1]) K)
 (Ret h K (tuple #[]))
theorem L_slices_reverseRangeOrdered_int_0r (data : Option Addr) (datan : Nat) (datac : Nat) (i : Int) (j : Int) (h : Heap) (K : Value → Heap → Prop) (k : L_slices_reverseRangeOrdered_int_0T data datan datac i j h K) : L_slices_reverseRangeOrdered_int_0 data datan datac i j h K :=
 LoopAt.of_ev (cs := []) Try.func97 mixed (fun junk => by kernel_rfl) k
def F_slices_reverseRangeOrdered_intT (data : Option Addr) (datan : Nat) (datac : Nat) (a : Int) (b : Int) (h : Heap) (K : Value → Heap → Prop) : Prop :=
 L_slices_reverseRangeOrdered_int_0 data datan datac a (IntKind.wrap IntKind.i64 (b - 1)) h K
theorem F_slices_reverseRangeOrdered_int (data : Option Addr) (datan : Nat) (datac : Nat) (a : Int) (b : Int) (h : Heap) (K : Value → Heap → Prop) (k : F_slices_reverseRangeOrdered_intT data datan datac a b h K) : CallA Try.prog fn_slices_reverseRangeOrdered_int [slice data datan datac, int IntKind.i64 a, int IntKind.i64 b] h K :=
 CallA.of_ev (cs := []) Try.func97 (by kernel_rfl) (fun _ _ => Try.call97 _ _) mixed (by kernel_rfl) (by kernel_rfl) k
end Go.Proofs.Ytjihfieahkbohaa

namespace Go.Proofs.Ytjihfieahkbohaa
open Go Go.Sy Go.Value
set_option linter.unusedVariables false
set_option maxRecDepth 100000
def L_ref11_Same_0 (a : Option Addr) (an : Nat) (ac : Nat) (b : Option Addr) (bn : Nat) (bc : Nat) (i : Int) (h : Heap) (K : Value → Heap → Prop) : Prop :=
 LoopAt Try.prog Try.f14 14 (loopK Try.f14 0) (sp 26 [(0, slice a an ac), (1, slice b bn bc), (5, int IntKind.i64 i)]) h K
def L_ref11_Same_0T (a : Option Addr) (an : Nat) (ac : Nat) (b : Option Addr) (bn : Nat) (bc : Nat) (i : Int) (h : Heap) (K : Value → Heap → Prop) : Prop :=
 Br (decide (i < (↑an : Int)))
 (0 ≤ i ∧
 i < (↑an : Int) ∧
 withAddr a fun (b_1 o : Nat) =>
 ∃ (n : Int),
 Heap.cell h b_1 (o + Int.toNat i) = some (int IntKind.i64 n) ∧
 0 ≤ i ∧
 i < (↑bn : Int) ∧
 withAddr b fun (b_2 o : Nat) =>
 ∃ (n_1 : Int), Heap.cell h b_2 (o + Int.toNat i) = some (int IntKind.i64 n_1) ∧ Br (n != n_1) (Ret h K (Value.bool false)) (L_ref11_Same_0 a an ac b bn bc (IntKind.wrap IntKind.i64 (i + 1)) h K))
 (Ret h K (Value.bool true))
theorem L_ref11_Same_0r (a : Option Addr) (an : Nat) (ac : Nat) (b : Option Addr) (bn : Nat) (bc : Nat) (i : Int) (h : Heap) (K : Value → Heap → Prop) (k : L_ref11_Same_0T a an ac b bn bc i h K) : L_ref11_Same_0 a an ac b bn bc i h K :=
 LoopAt.of_ev (cs := []) Try.func14 mixed (fun junk => by kernel_rfl) k
def F_ref11_SameT (a : Option Addr) (an : Nat) (ac : Nat) (b : Option Addr) (bn : Nat) (bc : Nat) (h : Heap) (K : Value → Heap → Prop) : Prop :=
 Br ((↑an : Int) != (↑bn : Int)) (Ret h K (Value.bool false)) (L_ref11_Same_0 a an ac b bn bc 0 h K)
theorem F_ref11_Same (a : Option Addr) (an : Nat) (ac : Nat) (b : Option Addr) (bn : Nat) (bc : Nat) (h : Heap) (K : Value → Heap → Prop) (k : F_ref11_SameT a an ac b bn bc h K) : CallA Try.prog fn_ref11_Same [slice a an ac, slice b bn bc] h K :=
 CallA.of_ev (cs := []) Try.func14 (by kernel_rfl) (fun _ _ => Try.call14 _ _) mixed (by kernel_rfl) (by kernel_rfl) k
end Go.Proofs.Ytjihfieahkbohaa

namespace Go.Proofs.Ytjihfieahkbohaa
open Go Go.Sy Go.Value
set_option linter.unusedVariables false
set_option maxRecDepth 100000
def F_law11_awakeT (h : Heap) (K : Value → Heap → Prop) : Prop := CallA Try.prog fn_deal_New [int IntKind.i64 3, int IntKind.i64 2] h fun (v : Value) (h : Heap) => ∃ (a : Option Addr), ∃ (n : Int), v = tuple #[pointer a, int IntKind.i64 n] ∧ CallA Try.prog fn_deal_New [int IntKind.i64 17, int IntKind.i64 1] h fun (v : Value) (h : Heap) => ∃ (a_1 : Option Addr), ∃ (n_1 : Int), v = tuple #[pointer a_1, int IntKind.i64 n_1] ∧ Br (Option.isNone a) (Ret h K (Value.bool false)) (newB h [int IntKind.i64 0, int IntKind.i64 0, int IntKind.i64 0, int IntKind.i64 0, int IntKind.i64 0, int IntKind.i64 0, int IntKind.i64 0] 33 fun (r : Nat) (h : Heap) => Heap.canSt h r 0 7 ∧ newB (Heap.setN h r 0 [int IntKind.i64 7, int IntKind.i64 0, int IntKind.i64 1, int IntKind.i64 0, int IntKind.i64 1, int IntKind.i64 100, int IntKind.i64 80]) [int IntKind.i64 0, int IntKind.i64 0, int IntKind.i64 0, int IntKind.i64 0, int IntKind.i64 0, int IntKind.i64 0, int IntKind.i64 0] 33 fun (r_1 : Nat) (h : Heap) => Heap.canSt h r_1 0 7 ∧ LdJ7 (Heap.setN h r_1 0 [int IntKind.i64 7, int IntKind.i64 1, int IntKind.i64 0, int IntKind.i64 1, int IntKind.i64 0, int IntKind.i64 80, int IntKind.i64 100]) r 0 fun n_2 n_3 n_4 n_5 n_6 n_7 n_8 => CallA Try.prog 19 [pointer a, agg #[int IntKind.i64 n_2, int IntKind.i64 n_3, int IntKind.i64 n_4, int IntKind.i64 n_5, int IntKind.i64 n_6, int IntKind.i64 n_7, int IntKind.i64 n_8]] (Heap.setN h r_1 0 [int IntKind.i64 7, int IntKind.i64 1, int IntKind.i64 0, int IntKind.i64 1, int IntKind.i64 0, int IntKind.i64 80, int IntKind.i64 100]) fun (v : Value) (h : Heap) => ∃ (b : Bool), ∃ (n_9 : Int), v = tuple #[Value.bool b, int IntKind.i64 n_9] ∧ LdJ7 h r 0 fun n_10 n_11 n_12 n_13 n_14 n_15 n_16 => CallA Try.prog 19 [pointer a, agg #[int IntKind.i64 n_10, int IntKind.i64 n_11, int IntKind.i64 n_12, int IntKind.i64 n_13, int IntKind.i64 n_14, int IntKind.i64 n_15, int IntKind.i64 n_16]] h fun (v : Value) (h : Heap) => ∃ (b_1 : Bool), ∃ (n_17 : Int), v = tuple #[Value.bool b_1, int IntKind.i64 n_17] ∧ LdJ7 h r_1 0 fun n_18 n_19 n_20 n_21 n_22 n_23 n_24 => CallA Try.prog 19 [pointer a, agg #[int IntKind.i64 n_18, int IntKind.i64 n_19, int IntKind.i64 n_20, int IntKind.i64 n_21, int IntKind.i64 n_22, int IntKind.i64 n_23, int IntKind.i64 n_24]] h fun (v : Value) (h : Heap) => ∃ (b_2 : Bool), ∃ (n_25 : Int), v = tuple #[Value.bool b_2, int IntKind.i64 n_25] ∧ CallA Try.prog fn_pdeal_Book_Rescind [pointer a, int IntKind.i64 1, int IntKind.i64 7] h fun (v : Value) (h : Heap) => ∃ (n_26 : Int), ∃ (n_27 : Int), v = tuple #[int IntKind.i64 n_26, int IntKind.i64 n_27] ∧ CallA Try.prog fn_pdeal_Book_Settle [pointer a, int IntKind.i64 7] h fun (v : Value) (h : Heap) => ∃ (n_28 : Int), v = int IntKind.i64 n_28 ∧ CallA Try.prog fn_pdeal_Book_Deal [pointer a, int IntKind.i64 7] h fun (v : Value) (h : Heap) => ∃ (n_29 : Int), ∃ (n_30 : Int), ∃ (n_31 : Int), ∃ (n_32 : Int), ∃ (n_33 : Int), ∃ (n_34 : Int), ∃ (n_35 : Int), ∃ (b_3 : Bool), v = tuple #[agg #[int IntKind.i64 n_29, int IntKind.i64 n_30, int IntKind.i64 n_31, int IntKind.i64 n_32, int IntKind.i64 n_33, int IntKind.i64 n_34, int IntKind.i64 n_35], Value.bool b_3] ∧ newB h [int IntKind.i64 0, int IntKind.i64 0, int IntKind.i64 0, int IntKind.i64 0, int IntKind.i64 0, int IntKind.i64 0, int IntKind.i64 0] 33 fun (r_2 : Nat) (h : Heap) => Heap.canSt h r_2 0 7 ∧ CallA Try.prog 21 [pointer a, int IntKind.i64 0, int IntKind.i64 7] (Heap.setN h r_2 0 [int IntKind.i64 n_29, int IntKind.i64 n_30, int IntKind.i64 n_31, int IntKind.i64 n_32, int IntKind.i64 n_33, int IntKind.i64 n_34, int IntKind.i64 n_35]) fun (v : Value) (h : Heap) => ∃ (n_36 : Int), ∃ (n_37 : Int), v = tuple #[int IntKind.i64 n_36, int IntKind.i64 n_37] ∧ CallA Try.prog fn_pdeal_Book_Text [pointer a] h fun (v : Value) (h : Heap) => ∃ (s : ByteArray), v = string s ∧ CallA Try.prog 17 [string s, int IntKind.i64 3, int IntKind.i64 2] h fun (v : Value) (h : Heap) => ∃ (a_2 : Option Addr), ∃ (n_38 : Int), v = tuple #[pointer a_2, int IntKind.i64 n_38] ∧ Br (n == 0) (Br (n_1 == 1) (Br (!b) (Br (n_9 == 0) (Br (n_17 == 6) (Br b_2 (Br (n_25 == 0) (Br (n_26 == 2) (Br (n_27 == 0) (Br (n_28 == 0) (LdJ7 h r_2 0 fun n n_39 n_40 n_41 n_42 n_43 n_44 => LdJ7 h r 0 fun n_45 n_46 n_47 n_48 n_49 n_50 n_51 => Br (n == n_45 && (n_39 == n_46 && (n_40 == n_47 && (n_41 == n_48 && (n_42 == n_49 && (n_43 == n_50 && (n_44 == n_51 && true))))))) (Br b_3 (Br (n_37 == 7) (CallA Try.prog 20 [pointer a, int IntKind.i64 7] h fun (v : Value) (h : Heap) => ∃ (n : Int), v = int IntKind.i64 n ∧ Br (n == 3) (CallA Try.prog 20 [pointer a, int IntKind.i64 8] h fun (v : Value) (h : Heap) => ∃ (n : Int), v = int IntKind.i64 n ∧ Br (n == 0) (CallA Try.prog 15 [pointer a, int IntKind.i64 3] h fun (v : Value) (h : Heap) => ∃ (a_3 : Option Addr), ∃ (n : Nat), ∃ (m : Nat), v = slice a_3 n m ∧ newB h [int IntKind.i64 7] 3 fun (r : Nat) (h : Heap) => CallA Try.prog 14 [slice a_3 n m, slice (some { block := r, off := 0 }) 1 1] h fun (v : Value) (h : Heap) => ∃ (b : Bool), v = Value.bool b ∧ Br b (CallA Try.prog 24 [pointer a, int IntKind.i64 0] h fun (v : Value) (h : Heap) => ∃ (a : Option Addr), ∃ (n : Nat), ∃ (m : Nat), v = slice a n m ∧ Br ((↑n : Int) == 0) (Br (!Option.isNone a_2) (Br (n_38 == 0) (CallA Try.prog 20 [pointer a_2, int IntKind.i64 7] h fun (v : Value) (h : Heap) => ∃ (n : Int), v = int IntKind.i64 n ∧ Br (n == 3) (Ret h K (Value.bool true)) (Ret h K (Value.bool false))) (Ret h K (Value.bool false))) (Ret h K (Value.bool false))) (Ret h K (Value.bool false))) (Ret h K (Value.bool false))) (Ret h K (Value.bool false))) (Ret h K (Value.bool false))) (Ret h K (Value.bool false))) (Ret h K (Value.bool false))) (Ret h K (Value.bool false))) (Ret h K (Value.bool false))) (Ret h K (Value.bool false))) (Ret h K (Value.bool false))) (Ret h K (Value.bool false))) (Ret h K (Value.bool false))) (Ret h K (Value.bool false))) (Ret h K (Value.bool false))) (Ret h K (Value.bool false))) (Ret h K (Value.bool false))) (Ret h K (Value.bool false)))
theorem F_law11_awake (h : Heap) (K : Value → Heap → Prop) (k : F_law11_awakeT h K) : CallA Try.prog fn_law11_awake [] h K :=
 CallA.of_ev (cs := []) Try.func8 (by kernel_rfl) (fun _ _ => Try.call8 _ _) mixed (by kernel_rfl) (by kernel_rfl) k
end Go.Proofs.Ytjihfieahkbohaa

namespace Go.Proofs.Ytjihfieahkbohaa
open Go Go.Sy Go.Value
set_option linter.unusedVariables false
set_option maxRecDepth 100000
def F_law11_DealTwoT (d_0 : Int) (d_1 : Int) (d_2 : Int) (d_3 : Int) (d_4 : Int) (d_5 : Int) (d_6 : Int) (second : Bool) (h : Heap) (K : Value → Heap → Prop) : Prop := newB h [int IntKind.i64 d_0, int IntKind.i64 d_1, int IntKind.i64 d_2, int IntKind.i64 d_3, int IntKind.i64 d_4, int IntKind.i64 d_5, int IntKind.i64 d_6] 33 fun (r : Nat) (h : Heap) => CallA Try.prog fn_law11_awake [] h fun (v : Value) (h : Heap) => ∃ (b : Bool), v = Value.bool b ∧ Br (!b) (Ret h K (Value.bool false)) (CallA Try.prog fn_deal_New [int IntKind.i64 16, int IntKind.i64 8] h fun (v : Value) (h : Heap) => ∃ (a : Option Addr), ∃ (n : Int), v = tuple #[pointer a, int IntKind.i64 n] ∧ Br (Option.isNone a) (Ret h K (Value.bool false)) (∃ (n : Int), Heap.cell h r 0 = some (int IntKind.i64 n) ∧ ∃ (n_1 : Int), Heap.cell h r 2 = some (int IntKind.i64 n_1) ∧ ∃ (n_2 : Int), Heap.cell h r 1 = some (int IntKind.i64 n_2) ∧ ∃ (n_3 : Int), Heap.cell h r 4 = some (int IntKind.i64 n_3) ∧ ∃ (n_4 : Int), Heap.cell h r 3 = some (int IntKind.i64 n_4) ∧ ∃ (n_5 : Int), Heap.cell h r 6 = some (int IntKind.i64 n_5) ∧ ∃ (n_6 : Int), Heap.cell h r 5 = some (int IntKind.i64 n_6) ∧ newB h [int IntKind.i64 0, int IntKind.i64 0, int IntKind.i64 0, int IntKind.i64 0, int IntKind.i64 0, int IntKind.i64 0, int IntKind.i64 0] 33 fun (r_1 : Nat) (h : Heap) => Heap.canSt h r_1 0 7 ∧ Br second (LdJ7 (Heap.setN h r_1 0 [int IntKind.i64 n, int IntKind.i64 n_1, int IntKind.i64 n_2, int IntKind.i64 n_3, int IntKind.i64 n_4, int IntKind.i64 n_5, int IntKind.i64 n_6]) r_1 0 fun n_7 n_8 n_9 n_10 n_11 n_12 n_13 => LdJ7 (Heap.setN h r_1 0 [int IntKind.i64 n, int IntKind.i64 n_1, int IntKind.i64 n_2, int IntKind.i64 n_3, int IntKind.i64 n_4, int IntKind.i64 n_5, int IntKind.i64 n_6]) r 0 fun n_14 n_15 n_16 n_17 n_18 n_19 n_20 => Heap.canSt (Heap.setN h r_1 0 [int IntKind.i64 n, int IntKind.i64 n_1, int IntKind.i64 n_2, int IntKind.i64 n_3, int IntKind.i64 n_4, int IntKind.i64 n_5, int IntKind.i64 n_6]) r 0 7 ∧ Heap.canSt (Heap.setN (Heap.setN h r_1 0 [int IntKind.i64 n, int IntKind.i64 n_1, int IntKind.i64 n_2, int IntKind.i64 n_3, int IntKind.i64 n_4, int IntKind.i64 n_5, int IntKind.i64 n_6]) r 0 [int IntKind.i64 n_7, int IntKind.i64 n_8, int IntKind.i64 n_9, int IntKind.i64 n_10, int IntKind.i64 n_11, int IntKind.i64 n_12, int IntKind.i64 n_13]) r_1 0 7 ∧ LdJ7 (Heap.setN (Heap.setN (Heap.setN h r_1 0 [int IntKind.i64 n, int IntKind.i64 n_1, int IntKind.i64 n_2, int IntKind.i64 n_3, int IntKind.i64 n_4, int IntKind.i64 n_5, int IntKind.i64 n_6]) r 0 [int IntKind.i64 n_7, int IntKind.i64 n_8, int IntKind.i64 n_9, int IntKind.i64 n_10, int IntKind.i64 n_11, int IntKind.i64 n_12, int IntKind.i64 n_13]) r_1 0 [int IntKind.i64 n_14, int IntKind.i64 n_15, int IntKind.i64 n_16, int IntKind.i64 n_17, int IntKind.i64 n_18, int IntKind.i64 n_19, int IntKind.i64 n_20]) r 0 fun n_21 n_22 n_23 n_24 n_25 n_26 n_27 => CallA Try.prog 19 [pointer a, agg #[int IntKind.i64 n_21, int IntKind.i64 n_22, int IntKind.i64 n_23, int IntKind.i64 n_24, int IntKind.i64 n_25, int IntKind.i64 n_26, int IntKind.i64 n_27]] (Heap.setN (Heap.setN (Heap.setN h r_1 0 [int IntKind.i64 n, int IntKind.i64 n_1, int IntKind.i64 n_2, int IntKind.i64 n_3, int IntKind.i64 n_4, int IntKind.i64 n_5, int IntKind.i64 n_6]) r 0 [int IntKind.i64 n_7, int IntKind.i64 n_8, int IntKind.i64 n_9, int IntKind.i64 n_10, int IntKind.i64 n_11, int IntKind.i64 n_12, int IntKind.i64 n_13]) r_1 0 [int IntKind.i64 n_14, int IntKind.i64 n_15, int IntKind.i64 n_16, int IntKind.i64 n_17, int IntKind.i64 n_18, int IntKind.i64 n_19, int IntKind.i64 n_20]) fun (v : Value) (h : Heap) => ∃ (b : Bool), ∃ (n : Int), v = tuple #[Value.bool b, int IntKind.i64 n] ∧ Br (n != 0) (LdJ7 h r_1 0 fun n_28 n_29 n_30 n_31 n_32 n_33 n_34 => CallA Try.prog 19 [pointer a, agg #[int IntKind.i64 n_28, int IntKind.i64 n_29, int IntKind.i64 n_30, int IntKind.i64 n_31, int IntKind.i64 n_32, int IntKind.i64 n_33, int IntKind.i64 n_34]] h fun (v : Value) (h : Heap) => ∃ (b : Bool), ∃ (n_35 : Int), v = tuple #[Value.bool b, int IntKind.i64 n_35] ∧ Br (n == 1) (Br (n_35 == 1) (∃ (n : Int), Heap.cell h r 0 = some (int IntKind.i64 n) ∧ CallA Try.prog 20 [pointer a, int IntKind.i64 n] h fun (v : Value) (h : Heap) => ∃ (n : Int), v = int IntKind.i64 n ∧ Ret h K (Value.bool (n == 0))) (Ret h K (Value.bool false))) (Ret h K (Value.bool false))) (LdJ7 h r_1 0 fun n n_28 n_29 n_30 n_31 n_32 n_33 => CallA Try.prog 19 [pointer a, agg #[int IntKind.i64 n, int IntKind.i64 n_28, int IntKind.i64 n_29, int IntKind.i64 n_30, int IntKind.i64 n_31, int IntKind.i64 n_32, int IntKind.i64 n_33]] h fun (v : Value) (h : Heap) => ∃ (b_1 : Bool), ∃ (n : Int), v = tuple #[Value.bool b_1, int IntKind.i64 n] ∧ LdJ7 h r_1 0 fun n_34 n_35 n_36 n_37 n_38 n_39 n_40 => CallA Try.prog 19 [pointer a, agg #[int IntKind.i64 n_34, int IntKind.i64 n_35, int IntKind.i64 n_36, int IntKind.i64 n_37, int IntKind.i64 n_38, int IntKind.i64 n_39, int IntKind.i64 n_40]] h fun (v : Value) (h : Heap) => ∃ (b_2 : Bool), ∃ (n_41 : Int), v = tuple #[Value.bool b_2, int IntKind.i64 n_41] ∧ ∃ (n_42 : Int), Heap.cell h r 2 = some (int IntKind.i64 n_42) ∧ ∃ (n_43 : Int), Heap.cell h r 0 = some (int IntKind.i64 n_43) ∧ CallA Try.prog 21 [pointer a, int IntKind.i64 n_42, int IntKind.i64 n_43] h fun (v : Value) (h : Heap) => ∃ (n_44 : Int), ∃ (n_45 : Int), v = tuple #[int IntKind.i64 n_44, int IntKind.i64 n_45] ∧ ∃ (n_46 : Int), Heap.cell h r 2 = some (int IntKind.i64 n_46) ∧ ∃ (n_47 : Int), Heap.cell h r 0 = some (int IntKind.i64 n_47) ∧ CallA Try.prog 21 [pointer a, int IntKind.i64 n_46, int IntKind.i64 n_47] h fun (v : Value) (h : Heap) => ∃ (n_48 : Int), ∃ (n_49 : Int), v = tuple #[int IntKind.i64 n_48, int IntKind.i64 n_49] ∧ ∃ (n_50 : Int), Heap.cell h r 1 = some (int IntKind.i64 n_50) ∧ ∃ (n_51 : Int), Heap.cell h r 0 = some (int IntKind.i64 n_51) ∧ CallA Try.prog 21 [pointer a, int IntKind.i64 n_50, int IntKind.i64 n_51] h fun (v : Value) (h : Heap) => ∃ (n_52 : Int), ∃ (n_53 : Int), v = tuple #[int IntKind.i64 n_52, int IntKind.i64 n_53] ∧ ∃ (n_54 : Int), Heap.cell h r 0 = some (int IntKind.i64 n_54) ∧ CallA Try.prog 22 [pointer a, int IntKind.i64 n_54] h fun (v : Value) (h : Heap) => ∃ (n_55 : Int), v = int IntKind.i64 n_55 ∧ ∃ (n_56 : Int), Heap.cell h r 0 = some (int IntKind.i64 n_56) ∧ CallA Try.prog 23 [pointer a, int IntKind.i64 n_56] h fun (v : Value) (h : Heap) => ∃ (n_57 : Int), ∃ (n_58 : Int), ∃ (n_59 : Int), ∃ (n_60 : Int), ∃ (n_61 : Int), ∃ (n_62 : Int), ∃ (n_63 : Int), ∃ (b_3 : Bool), v = tuple #[agg #[int IntKind.i64 n_57, int IntKind.i64 n_58, int IntKind.i64 n_59, int IntKind.i64 n_60, int IntKind.i64 n_61, int IntKind.i64 n_62, int IntKind.i64 n_63], Value.bool b_3] ∧ newB h [int IntKind.i64 0, int IntKind.i64 0, int IntKind.i64 0, int IntKind.i64 0, int IntKind.i64 0, int IntKind.i64 0, int IntKind.i64 0] 33 fun (r_2 : Nat) (h : Heap) => Heap.canSt h r_2 0 7 ∧ Br (!b) (Br b_1 (Br (n == 0) (Br (n_41 == 6) (Br (n_44 == 2) (Br (n_45 == 0) (Br (n_49 == 6) (Br (n_52 == 4) (Br (n_53 == 0) (Br (n_55 == 7) (Br b_3 (LdJ7 (Heap.setN h r_2 0 [int IntKind.i64 n_57, int IntKind.i64 n_58, int IntKind.i64 n_59, int IntKind.i64 n_60, int IntKind.i64 n_61, int IntKind.i64 n_62, int IntKind.i64 n_63]) r_2 0 fun n n_64 n_65 n_66 n_67 n_68 n_69 => LdJ7 (Heap.setN h r_2 0 [int IntKind.i64 n_57, int IntKind.i64 n_58, int IntKind.i64 n_59, int IntKind.i64 n_60, int IntKind.i64 n_61, int IntKind.i64 n_62, int IntKind.i64 n_63]) r 0 fun n_70 n_71 n_72 n_73 n_74 n_75 n_76 => Ret (Heap.setN h r_2 0 [int IntKind.i64 n_57, int IntKind.i64 n_58, int IntKind.i64 n_59, int IntKind.i64 n_60, int IntKind.i64 n_61, int IntKind.i64 n_62, int IntKind.i64 n_63]) K (Value.bool (n == n_70 && (n_64 == n_71 && (n_65 == n_72 && (n_66 == n_73 && (n_67 == n_74 && (n_68 == n_75 && (n_69 == n_76 && true))))))))) (Ret (Heap.setN h r_2 0 [int IntKind.i64 n_57, int IntKind.i64 n_58, int IntKind.i64 n_59, int IntKind.i64 n_60, int IntKind.i64 n_61, int IntKind.i64 n_62, int IntKind.i64 n_63]) K (Value.bool false))) (Ret (Heap.setN h r_2 0 [int IntKind.i64 n_57, int IntKind.i64 n_58, int IntKind.i64 n_59, int IntKind.i64 n_60, int IntKind.i64 n_61, int IntKind.i64 n_62, int IntKind.i64 n_63]) K (Value.bool false))) (Ret (Heap.setN h r_2 0 [int IntKind.i64 n_57, int IntKind.i64 n_58, int IntKind.i64 n_59, int IntKind.i64 n_60, int IntKind.i64 n_61, int IntKind.i64 n_62, int IntKind.i64 n_63]) K (Value.bool false))) (Ret (Heap.setN h r_2 0 [int IntKind.i64 n_57, int IntKind.i64 n_58, int IntKind.i64 n_59, int IntKind.i64 n_60, int IntKind.i64 n_61, int IntKind.i64 n_62, int IntKind.i64 n_63]) K (Value.bool false))) (Ret (Heap.setN h r_2 0 [int IntKind.i64 n_57, int IntKind.i64 n_58, int IntKind.i64 n_59, int IntKind.i64 n_60, int IntKind.i64 n_61, int IntKind.i64 n_62, int IntKind.i64 n_63]) K (Value.bool false))) (Ret (Heap.setN h r_2 0 [int IntKind.i64 n_57, int IntKind.i64 n_58, int IntKind.i64 n_59, int IntKind.i64 n_60, int IntKind.i64 n_61, int IntKind.i64 n_62, int IntKind.i64 n_63]) K (Value.bool false))) (Ret (Heap.setN h r_2 0 [int IntKind.i64 n_57, int IntKind.i64 n_58, int IntKind.i64 n_59, int IntKind.i64 n_60, int IntKind.i64 n_61, int IntKind.i64 n_62, int IntKind.i64 n_63]) K (Value.bool false))) (Ret (Heap.setN h r_2 0 [int IntKind.i64 n_57, int IntKind.i64 n_58, int IntKind.i64 n_59, int IntKind.i64 n_60, int IntKind.i64 n_61, int IntKind.i64 n_62, int IntKind.i64 n_63]) K (Value.bool false))) (Ret (Heap.setN h r_2 0 [int IntKind.i64 n_57, int IntKind.i64 n_58, int IntKind.i64 n_59, int IntKind.i64 n_60, int IntKind.i64 n_61, int IntKind.i64 n_62, int IntKind.i64 n_63]) K (Value.bool false))) (Ret (Heap.setN h r_2 0 [int IntKind.i64 n_57, int IntKind.i64 n_58, int IntKind.i64 n_59, int IntKind.i64 n_60, int IntKind.i64 n_61, int IntKind.i64 n_62, int IntKind.i64 n_63]) K (Value.bool false))) (Ret (Heap.setN h r_2 0 [int IntKind.i64 n_57, int IntKind.i64 n_58, int IntKind.i64 n_59, int IntKind.i64 n_60, int IntKind.i64 n_61, int IntKind.i64 n_62, int IntKind.i64 n_63]) K (Value.bool false)))) (LdJ7 (Heap.setN h r_1 0 [int IntKind.i64 n, int IntKind.i64 n_1, int IntKind.i64 n_2, int IntKind.i64 n_3, int IntKind.i64 n_4, int IntKind.i64 n_5, int IntKind.i64 n_6]) r 0 fun n_7 n_8 n_9 n_10 n_11 n_12 n_13 => CallA Try.prog 19 [pointer a, agg #[int IntKind.i64 n_7, int IntKind.i64 n_8, int IntKind.i64 n_9, int IntKind.i64 n_10, int IntKind.i64 n_11, int IntKind.i64 n_12, int IntKind.i64 n_13]] (Heap.setN h r_1 0 [int IntKind.i64 n, int IntKind.i64 n_1, int IntKind.i64 n_2, int IntKind.i64 n_3, int IntKind.i64 n_4, int IntKind.i64 n_5, int IntKind.i64 n_6]) fun (v : Value) (h : Heap) => ∃ (b : Bool), ∃ (n : Int), v = tuple #[Value.bool b, int IntKind.i64 n] ∧ Br (n != 0) (LdJ7 h r_1 0 fun n_14 n_15 n_16 n_17 n_18 n_19 n_20 => CallA Try.prog 19 [pointer a, agg #[int IntKind.i64 n_14, int IntKind.i64 n_15, int IntKind.i64 n_16, int IntKind.i64 n_17, int IntKind.i64 n_18, int IntKind.i64 n_19, int IntKind.i64 n_20]] h fun (v : Value) (h : Heap) => ∃ (b : Bool), ∃ (n_21 : Int), v = tuple #[Value.bool b, int IntKind.i64 n_21] ∧ Br (n == 1) (Br (n_21 == 1) (∃ (n : Int), Heap.cell h r 0 = some (int IntKind.i64 n) ∧ CallA Try.prog fn_pdeal_Book_State [pointer a, int IntKind.i64 n] h fun (v : Value) (h : Heap) => ∃ (n : Int), v = int IntKind.i64 n ∧ Ret h K (Value.bool (n == 0))) (Ret h K (Value.bool false))) (Ret h K (Value.bool false))) (LdJ7 h r_1 0 fun n n_14 n_15 n_16 n_17 n_18 n_19 => CallA Try.prog 19 [pointer a, agg #[int IntKind.i64 n, int IntKind.i64 n_14, int IntKind.i64 n_15, int IntKind.i64 n_16, int IntKind.i64 n_17, int IntKind.i64 n_18, int IntKind.i64 n_19]] h fun (v : Value) (h : Heap) => ∃ (b_1 : Bool), ∃ (n : Int), v = tuple #[Value.bool b_1, int IntKind.i64 n] ∧ LdJ7 h r_1 0 fun n_20 n_21 n_22 n_23 n_24 n_25 n_26 => CallA Try.prog 19 [pointer a, agg #[int IntKind.i64 n_20, int IntKind.i64 n_21, int IntKind.i64 n_22, int IntKind.i64 n_23, int IntKind.i64 n_24, int IntKind.i64 n_25, int IntKind.i64 n_26]] h fun (v : Value) (h : Heap) => ∃ (b_2 : Bool), ∃ (n_27 : Int), v = tuple #[Value.bool b_2, int IntKind.i64 n_27] ∧ ∃ (n_28 : Int), Heap.cell h r 2 = some (int IntKind.i64 n_28) ∧ ∃ (n_29 : Int), Heap.cell h r 0 = some (int IntKind.i64 n_29) ∧ CallA Try.prog 21 [pointer a, int IntKind.i64 n_28, int IntKind.i64 n_29] h fun (v : Value) (h : Heap) => ∃ (n_30 : Int), ∃ (n_31 : Int), v = tuple #[int IntKind.i64 n_30, int IntKind.i64 n_31] ∧ ∃ (n_32 : Int), Heap.cell h r 2 = some (int IntKind.i64 n_32) ∧ ∃ (n_33 : Int), Heap.cell h r 0 = some (int IntKind.i64 n_33) ∧ CallA Try.prog 21 [pointer a, int IntKind.i64 n_32, int IntKind.i64 n_33] h fun (v : Value) (h : Heap) => ∃ (n_34 : Int), ∃ (n_35 : Int), v = tuple #[int IntKind.i64 n_34, int IntKind.i64 n_35] ∧ ∃ (n_36 : Int), Heap.cell h r 1 = some (int IntKind.i64 n_36) ∧ ∃ (n_37 : Int), Heap.cell h r 0 = some (int IntKind.i64 n_37) ∧ CallA Try.prog 21 [pointer a, int IntKind.i64 n_36, int IntKind.i64 n_37] h fun (v : Value) (h : Heap) => ∃ (n_38 : Int), ∃ (n_39 : Int), v = tuple #[int IntKind.i64 n_38, int IntKind.i64 n_39] ∧ ∃ (n_40 : Int), Heap.cell h r 0 = some (int IntKind.i64 n_40) ∧ CallA Try.prog 22 [pointer a, int IntKind.i64 n_40] h fun (v : Value) (h : Heap) => ∃ (n_41 : Int), v = int IntKind.i64 n_41 ∧ ∃ (n_42 : Int), Heap.cell h r 0 = some (int IntKind.i64 n_42) ∧ CallA Try.prog 23 [pointer a, int IntKind.i64 n_42] h fun (v : Value) (h : Heap) => ∃ (n_43 : Int), ∃ (n_44 : Int), ∃ (n_45 : Int), ∃ (n_46 : Int), ∃ (n_47 : Int), ∃ (n_48 : Int), ∃ (n_49 : Int), ∃ (b_3 : Bool), v = tuple #[agg #[int IntKind.i64 n_43, int IntKind.i64 n_44, int IntKind.i64 n_45, int IntKind.i64 n_46, int IntKind.i64 n_47, int IntKind.i64 n_48, int IntKind.i64 n_49], Value.bool b_3] ∧ newB h [int IntKind.i64 0, int IntKind.i64 0, int IntKind.i64 0, int IntKind.i64 0, int IntKind.i64 0, int IntKind.i64 0, int IntKind.i64 0] 33 fun (r_2 : Nat) (h : Heap) => Heap.canSt h r_2 0 7 ∧ Br (!b) (Br b_1 (Br (n == 0) (Br (n_27 == 6) (Br (n_30 == 2) (Br (n_31 == 0) (Br (n_35 == 6) (Br (n_38 == 4) (Br (n_39 == 0) (Br (n_41 == 7) (Br b_3 (LdJ7 (Heap.setN h r_2 0 [int IntKind.i64 n_43, int IntKind.i64 n_44, int IntKind.i64 n_45, int IntKind.i64 n_46, int IntKind.i64 n_47, int IntKind.i64 n_48, int IntKind.i64 n_49]) r_2 0 fun n n_50 n_51 n_52 n_53 n_54 n_55 => LdJ7 (Heap.setN h r_2 0 [int IntKind.i64 n_43, int IntKind.i64 n_44, int IntKind.i64 n_45, int IntKind.i64 n_46, int IntKind.i64 n_47, int IntKind.i64 n_48, int IntKind.i64 n_49]) r 0 fun n_56 n_57 n_58 n_59 n_60 n_61 n_62 => Ret (Heap.setN h r_2 0 [int IntKind.i64 n_43, int IntKind.i64 n_44, int IntKind.i64 n_45, int IntKind.i64 n_46, int IntKind.i64 n_47, int IntKind.i64 n_48, int IntKind.i64 n_49]) K (Value.bool (n == n_56 && (n_50 == n_57 && (n_51 == n_58 && (n_52 == n_59 && (n_53 == n_60 && (n_54 == n_61 && (n_55 == n_62 && true))))))))) (Ret (Heap.setN h r_2 0 [int IntKind.i64 n_43, int IntKind.i64 n_44, int IntKind.i64 n_45, int IntKind.i64 n_46, int IntKind.i64 n_47, int IntKind.i64 n_48, int IntKind.i64 n_49]) K (Value.bool false))) (Ret (Heap.setN h r_2 0 [int IntKind.i64 n_43, int IntKind.i64 n_44, int IntKind.i64 n_45, int IntKind.i64 n_46, int IntKind.i64 n_47, int IntKind.i64 n_48, int IntKind.i64 n_49]) K (Value.bool false))) (Ret (Heap.setN h r_2 0 [int IntKind.i64 n_43, int IntKind.i64 n_44, int IntKind.i64 n_45, int IntKind.i64 n_46, int IntKind.i64 n_47, int IntKind.i64 n_48, int IntKind.i64 n_49]) K (Value.bool false))) (Ret (Heap.setN h r_2 0 [int IntKind.i64 n_43, int IntKind.i64 n_44, int IntKind.i64 n_45, int IntKind.i64 n_46, int IntKind.i64 n_47, int IntKind.i64 n_48, int IntKind.i64 n_49]) K (Value.bool false))) (Ret (Heap.setN h r_2 0 [int IntKind.i64 n_43, int IntKind.i64 n_44, int IntKind.i64 n_45, int IntKind.i64 n_46, int IntKind.i64 n_47, int IntKind.i64 n_48, int IntKind.i64 n_49]) K (Value.bool false))) (Ret (Heap.setN h r_2 0 [int IntKind.i64 n_43, int IntKind.i64 n_44, int IntKind.i64 n_45, int IntKind.i64 n_46, int IntKind.i64 n_47, int IntKind.i64 n_48, int IntKind.i64 n_49]) K (Value.bool false))) (Ret (Heap.setN h r_2 0 [int IntKind.i64 n_43, int IntKind.i64 n_44, int IntKind.i64 n_45, int IntKind.i64 n_46, int IntKind.i64 n_47, int IntKind.i64 n_48, int IntKind.i64 n_49]) K (Value.bool false))) (Ret (Heap.setN h r_2 0 [int IntKind.i64 n_43, int IntKind.i64 n_44, int IntKind.i64 n_45, int IntKind.i64 n_46, int IntKind.i64 n_47, int IntKind.i64 n_48, int IntKind.i64 n_49]) K (Value.bool false))) (Ret (Heap.setN h r_2 0 [int IntKind.i64 n_43, int IntKind.i64 n_44, int IntKind.i64 n_45, int IntKind.i64 n_46, int IntKind.i64 n_47, int IntKind.i64 n_48, int IntKind.i64 n_49]) K (Value.bool false))) (Ret (Heap.setN h r_2 0 [int IntKind.i64 n_43, int IntKind.i64 n_44, int IntKind.i64 n_45, int IntKind.i64 n_46, int IntKind.i64 n_47, int IntKind.i64 n_48, int IntKind.i64 n_49]) K (Value.bool false))) (Ret (Heap.setN h r_2 0 [int IntKind.i64 n_43, int IntKind.i64 n_44, int IntKind.i64 n_45, int IntKind.i64 n_46, int IntKind.i64 n_47, int IntKind.i64 n_48, int IntKind.i64 n_49]) K (Value.bool false))))))
theorem F_law11_DealTwo (d_0 : Int) (d_1 : Int) (d_2 : Int) (d_3 : Int) (d_4 : Int) (d_5 : Int) (d_6 : Int) (second : Bool) (h : Heap) (K : Value → Heap → Prop) (k : F_law11_DealTwoT d_0 d_1 d_2 d_3 d_4 d_5 d_6 second h K) : CallA Try.prog fn_law11_DealTwo [agg #[int IntKind.i64 d_0, int IntKind.i64 d_1, int IntKind.i64 d_2, int IntKind.i64 d_3, int IntKind.i64 d_4, int IntKind.i64 d_5, int IntKind.i64 d_6], Value.bool second] h K :=
 CallA.of_ev (cs := []) Try.func5 (by kernel_rfl) (fun _ _ => Try.call5 _ _) mixed (by kernel_rfl) (by kernel_rfl) k
end Go.Proofs.Ytjihfieahkbohaa

namespace Go.Proofs.Ytjihfieahkbohaa
open Go Go.Sy Go.Value
set_option linter.unusedVariables false
set_option maxRecDepth 100000
def F_law11_doT (b : Option Addr) (r : Option Addr) (x_0 : Int) (x_1 : Int) (x_2 : Int) (x_3 : Int) (x_4 : Int) (x_5 : Int) (x_6 : Int) (x_7 : Int) (x_8 : Int) (x_9 : Int) (h : Heap) (K : Value → Heap → Prop) : Prop := newB h [int IntKind.i64 x_0, int IntKind.i64 x_1, int IntKind.i64 x_2, int IntKind.i64 x_3, int IntKind.i64 x_4, int IntKind.i64 x_5, int IntKind.i64 x_6, int IntKind.i64 x_7, int IntKind.i64 x_8, int IntKind.i64 x_9] 35 fun (r_1 : Nat) (h : Heap) => ∃ (n : Int), Heap.cell h r_1 0 = some (int IntKind.i64 n) ∧ Br (n == 0) (LdJ7 h r_1 3 fun n n_1 n_2 n_3 n_4 n_5 n_6 => CallA Try.prog 19 [pointer b, agg #[int IntKind.i64 n, int IntKind.i64 n_1, int IntKind.i64 n_2, int IntKind.i64 n_3, int IntKind.i64 n_4, int IntKind.i64 n_5, int IntKind.i64 n_6]] h fun (v : Value) (h : Heap) => ∃ (b : Bool), ∃ (n : Int), v = tuple #[Value.bool b, int IntKind.i64 n] ∧ LdJ7 h r_1 3 fun n_7 n_8 n_9 n_10 n_11 n_12 n_13 => CallA Try.prog 30 [pointer r, agg #[int IntKind.i64 n_7, int IntKind.i64 n_8, int IntKind.i64 n_9, int IntKind.i64 n_10, int IntKind.i64 n_11, int IntKind.i64 n_12, int IntKind.i64 n_13]] h fun (v : Value) (h : Heap) => ∃ (b_1 : Bool), ∃ (n_14 : Int), v = tuple #[Value.bool b_1, int IntKind.i64 n_14] ∧ Br (b == b_1) (Ret h K (Value.bool (n == n_14))) (Ret h K (Value.bool false))) (Br (n == 1) (∃ (n : Int), Heap.cell h r_1 1 = some (int IntKind.i64 n) ∧ ∃ (n_1 : Int), Heap.cell h r_1 2 = some (int IntKind.i64 n_1) ∧ CallA Try.prog fn_pdeal_Book_Rescind [pointer b, int IntKind.i64 n, int IntKind.i64 n_1] h fun (v : Value) (h : Heap) => ∃ (n : Int), ∃ (n_2 : Int), v = tuple #[int IntKind.i64 n, int IntKind.i64 n_2] ∧ ∃ (n_3 : Int), Heap.cell h r_1 1 = some (int IntKind.i64 n_3) ∧ ∃ (n_4 : Int), Heap.cell h r_1 2 = some (int IntKind.i64 n_4) ∧ CallA Try.prog fn_pref11_Book_Rescind [pointer r, int IntKind.i64 n_3, int IntKind.i64 n_4] h fun (v : Value) (h : Heap) => ∃ (n_5 : Int), ∃ (n_6 : Int), v = tuple #[int IntKind.i64 n_5, int IntKind.i64 n_6] ∧ Br (n == n_5) (Ret h K (Value.bool (n_2 == n_6))) (Ret h K (Value.bool false))) (Br (n == 2) (∃ (n : Int), Heap.cell h r_1 2 = some (int IntKind.i64 n) ∧ ∃ (n_1 : Int), Heap.cell h r_1 2 = some (int IntKind.i64 n_1) ∧ CallA Try.prog fn_pdeal_Book_Settle [pointer b, int IntKind.i64 n] h fun (v : Value) (h_1 : Heap) => ∃ (n : Int), v = int IntKind.i64 n ∧ (Heap.le h h_1 ∨ Keeps [r_1] h h_1) ∧ CallA Try.prog fn_pref11_Book_Settle [pointer r, int IntKind.i64 n_1] h_1 fun (v : Value) (h : Heap) => ∃ (n_2 : Int), v = int IntKind.i64 n_2 ∧ Ret h K (Value.bool (n == n_2))) (Br (n == 3) (∃ (n : Int), Heap.cell h r_1 1 = some (int IntKind.i64 n) ∧ ∃ (n_1 : Int), Heap.cell h r_1 1 = some (int IntKind.i64 n_1) ∧ CallA Try.prog fn_pdeal_Book_Remove [pointer b, int IntKind.i64 n] h fun (v : Value) (h_1 : Heap) => ∃ (a : Option Addr), ∃ (n : Nat), ∃ (m : Nat), v = slice a n m ∧ (Heap.le h h_1 ∨ Keeps [r_1] h h_1) ∧ CallA Try.prog fn_pref11_Book_Remove [pointer r, int IntKind.i64 n_1] h_1 fun (v : Value) (h : Heap) => ∃ (a_1 : Option Addr), ∃ (n_2 : Nat), ∃ (m_1 : Nat), v = slice a_1 n_2 m_1 ∧ CallA Try.prog fn_ref11_Same [slice a n m, slice a_1 n_2 m_1] h fun (v : Value) (h : Heap) => ∃ (b : Bool), v = Value.bool b ∧ Ret h K (Value.bool b)) (∃ (n : Int), Heap.cell h r_1 2 = some (int IntKind.i64 n) ∧ CallA Try.prog fn_pdeal_Book_Deal [pointer b, int IntKind.i64 n] h fun (v : Value) (h : Heap) => ∃ (n : Int), ∃ (n_1 : Int), ∃ (n_2 : Int), ∃ (n_3 : Int), ∃ (n_4 : Int), ∃ (n_5 : Int), ∃ (n_6 : Int), ∃ (b_1 : Bool), v = tuple #[agg #[int IntKind.i64 n, int IntKind.i64 n_1, int IntKind.i64 n_2, int IntKind.i64 n_3, int IntKind.i64 n_4, int IntKind.i64 n_5, int IntKind.i64 n_6], Value.bool b_1] ∧ newB h [int IntKind.i64 0, int IntKind.i64 0, int IntKind.i64 0, int IntKind.i64 0, int IntKind.i64 0, int IntKind.i64 0, int IntKind.i64 0] 33 fun (r_2 : Nat) (h : Heap) => Heap.canSt h r_2 0 7 ∧ ∃ (n_7 : Int), Heap.cell (Heap.setN h r_2 0 [int IntKind.i64 n, int IntKind.i64 n_1, int IntKind.i64 n_2, int IntKind.i64 n_3, int IntKind.i64 n_4, int IntKind.i64 n_5, int IntKind.i64 n_6]) r_1 2 = some (int IntKind.i64 n_7) ∧ CallA Try.prog fn_pref11_Book_At [pointer r, int IntKind.i64 n_7] (Heap.setN h r_2 0 [int IntKind.i64 n, int IntKind.i64 n_1, int IntKind.i64 n_2, int IntKind.i64 n_3, int IntKind.i64 n_4, int IntKind.i64 n_5, int IntKind.i64 n_6]) fun (v : Value) (h : Heap) => ∃ (n : Int), v = int IntKind.i64 n ∧ Br (decide (n < 0)) (LdJ7 h r_2 0 fun n n_8 n_9 n_10 n_11 n_12 n_13 => Br (n == 0 && (n_8 == 0 && (n_9 == 0 && (n_10 == 0 && (n_11 == 0 && (n_12 == 0 && (n_13 == 0 && true))))))) (Br (!b_1) (∃ (n : Int), Heap.cell h r_1 2 = some (int IntKind.i64 n) ∧ CallA Try.prog fn_pdeal_Book_State [pointer b, int IntKind.i64 n] h fun (v : Value) (h : Heap) => ∃ (n : Int), v = int IntKind.i64 n ∧ Ret h K (Value.bool (n == 0))) (Ret h K (Value.bool false))) (Ret h K (Value.bool false))) (LdJ7 h r_2 0 fun n_8 n_9 n_10 n_11 n_12 n_13 n_14 => withAddr r fun (b_2 o : Nat) => ∃ (a : Option Addr), ∃ (n_15 : Nat), ∃ (m : Nat), Heap.cell h b_2 (o + 2) = some (slice a n_15 m) ∧ 0 ≤ n ∧ n < (↑n_15 : Int) ∧ withAddr a fun (b_3 o : Nat) => LdJ7 h b_3 (o + Int.toNat n * 11) fun n_16 n_17 n_18 n_19 n_20 n_21 n_22 => Br (n_8 == n_16 && (n_9 == n_17 && (n_10 == n_18 && (n_11 == n_19 && (n_12 == n_20 && (n_13 == n_21 && (n_14 == n_22 && true))))))) (Br b_1 (∃ (n_23 : Int), Heap.cell h r_1 2 = some (int IntKind.i64 n_23) ∧ withAddr r fun (b_4 o : Nat) => ∃ (a : Option Addr), ∃ (n_24 : Nat), ∃ (m : Nat), Heap.cell h b_4 (o + 2) = some (slice a n_24 m) ∧ 0 ≤ n ∧ n < (↑n_24 : Int) ∧ withAddr a fun (b_5 o : Nat) => ∃ (n_25 : Int), Heap.cell h b_5 (o + Int.toNat n * 11 + 7) = some (int IntKind.i64 n_25) ∧ CallA Try.prog fn_pdeal_Book_State [pointer b, int IntKind.i64 n_23] h fun (v : Value) (h_1 : Heap) => ∃ (n : Int), v = int IntKind.i64 n ∧ (Heap.le h h_1 ∨ Keeps [b_4, b_5] h h_1) ∧ Ret h_1 K (Value.bool (n == n_25))) (Ret h K (Value.bool false))) (Ret h K (Value.bool false)))))))
theorem F_law11_do (b : Option Addr) (r : Option Addr) (x_0 : Int) (x_1 : Int) (x_2 : Int) (x_3 : Int) (x_4 : Int) (x_5 : Int) (x_6 : Int) (x_7 : Int) (x_8 : Int) (x_9 : Int) (h : Heap) (K : Value → Heap → Prop) (k : F_law11_doT b r x_0 x_1 x_2 x_3 x_4 x_5 x_6 x_7 x_8 x_9 h K) : CallA Try.prog fn_law11_do [pointer b, pointer r,
 agg #[int IntKind.i64 x_0, int IntKind.i64 x_1, int IntKind.i64 x_2, int IntKind.i64 x_3, int IntKind.i64 x_4, int IntKind.i64 x_5, int IntKind.i64 x_6, int IntKind.i64 x_7, int IntKind.i64 x_8, int IntKind.i64 x_9]] h K :=
 CallA.of_ev (cs := []) Try.func11 (by kernel_rfl) (fun _ _ => Try.call11 _ _) mixed (by kernel_rfl) (by kernel_rfl) k
end Go.Proofs.Ytjihfieahkbohaa

namespace Go.Proofs.Ytjihfieahkbohaa
open Go Go.Sy Go.Value
set_option linter.unusedVariables false
set_option maxRecDepth 100000
def L_law11_DealDoes_0 (ops : Option Addr) (opsn : Nat) (opsc : Nat) (b : Option Addr) (r : Option Addr) (i : Int) (h : Heap) (K : Value → Heap → Prop) : Prop :=
 LoopAt Try.prog Try.f3 3 (loopK Try.f3 0) (sp 78 [(2, slice ops opsn opsc), (7, pointer b), (9, pointer r), (11, int IntKind.i64 i)]) h K
def L_law11_DealDoes_1 (ops : Option Addr) (opsn : Nat) (opsc : Nat) (b : Option Addr) (r : Option Addr) (i : Int) (s : Int) (h : Heap) (K : Value → Heap → Prop) : Prop :=
 LoopAt Try.prog Try.f3 3 (loopK Try.f3 1) (sp 78 [(2, slice ops opsn opsc), (7, pointer b), (9, pointer r), (11, int IntKind.i64 i), (12, int IntKind.i64 s)]) h K
def L_law11_DealDoes_0T (ops : Option Addr) (opsn : Nat) (opsc : Nat) (b : Option Addr) (r : Option Addr) (i : Int) (h : Heap) (K : Value → Heap → Prop) : Prop := Br (!Option.isNone b) (Br (decide (i < (↑opsn : Int))) (Br (decide (i < 60)) (0 ≤ i ∧ i < (↑opsn : Int) ∧ withAddr ops fun (b_1 o : Nat) => LdJ10 h b_1 (o + Int.toNat i * 10) fun n n_1 n_2 n_3 n_4 n_5 n_6 n_7 n_8 n_9 => CallA Try.prog 11 [pointer b, pointer r, agg #[int IntKind.i64 n, int IntKind.i64 n_1, int IntKind.i64 n_2, int IntKind.i64 n_3, int IntKind.i64 n_4, int IntKind.i64 n_5, int IntKind.i64 n_6, int IntKind.i64 n_7, int IntKind.i64 n_8, int IntKind.i64 n_9]] h fun (v : Value) (h : Heap) => ∃ (b_2 : Bool), v = Value.bool b_2 ∧ Br (!b_2) (Ret h K (Value.bool false)) (CallA Try.prog fn_pdeal_Book_Text [pointer b] h fun (v : Value) (h : Heap) => ∃ (s : ByteArray), v = string s ∧ CallA Try.prog fn_pref11_Book_Text [pointer r] h fun (v : Value) (h : Heap) => ∃ (s_1 : ByteArray), v = string s_1 ∧ Br (!ByteArray.toList s == ByteArray.toList s_1) (Ret h K (Value.bool false)) (L_law11_DealDoes_1 ops opsn opsc b r i (-1) h K))) (Ret h K (Value.bool true))) (Ret h K (Value.bool true))) (Ret h K (Value.bool true))
theorem L_law11_DealDoes_0r (ops : Option Addr) (opsn : Nat) (opsc : Nat) (b : Option Addr) (r : Option Addr) (i : Int) (h : Heap) (K : Value → Heap → Prop) (k : L_law11_DealDoes_0T ops opsn opsc b r i h K) : L_law11_DealDoes_0 ops opsn opsc b r i h K :=
 LoopAt.of_ev (cs := []) Try.func3 mixed (fun junk => by kernel_rfl) k
def L_law11_DealDoes_1T (ops : Option Addr) (opsn : Nat) (opsc : Nat) (b : Option Addr) (r : Option Addr) (i : Int) (s : Int) (h : Heap) (K : Value → Heap → Prop) : Prop :=
 Br (decide (s ≤ 5))
 (CallA Try.prog fn_pdeal_Book_All [pointer b, int IntKind.i64 s] h fun (v : Value) (h : Heap) =>
 ∃ (a : Option Addr),
 ∃ (n : Nat),
 ∃ (m : Nat),
 v = slice a n m ∧
 CallA Try.prog fn_pref11_Book_All [pointer r, int IntKind.i64 s] h fun (v : Value) (h : Heap) =>
 ∃ (a_1 : Option Addr),
 ∃ (n_1 : Nat),
 ∃ (m_1 : Nat),
 v = slice a_1 n_1 m_1 ∧
 CallA Try.prog fn_ref11_Same [slice a n m, slice a_1 n_1 m_1] h fun (v : Value) (h : Heap) =>
 ∃ (b_1 : Bool), v = Value.bool b_1 ∧ Br (!b_1) (Ret h K (Value.bool false)) (L_law11_DealDoes_1 ops opsn opsc b r i (IntKind.wrap IntKind.i64 (s + 1)) h K))
 (L_law11_DealDoes_0 ops opsn opsc b r (IntKind.wrap IntKind.i64 (i + 1)) h K)
theorem L_law11_DealDoes_1r (ops : Option Addr) (opsn : Nat) (opsc : Nat) (b : Option Addr) (r : Option Addr) (i : Int) (s : Int) (h : Heap) (K : Value → Heap → Prop) (k : L_law11_DealDoes_1T ops opsn opsc b r i s h K) : L_law11_DealDoes_1 ops opsn opsc b r i s h K :=
 LoopAt.of_ev (cs := []) Try.func3 mixed (fun junk => by kernel_rfl) k
def F_law11_DealDoesT (members : Int) (currencies : Int) (ops : Option Addr) (opsn : Nat) (opsc : Nat) (h : Heap) (K : Value → Heap → Prop) : Prop :=
 CallA Try.prog fn_law11_awake [] h fun (v : Value) (h : Heap) =>
 ∃ (b : Bool),
 v = Value.bool b ∧
 Br (!b) (Ret h K (Value.bool false))
 (CallA Try.prog fn_deal_New [int IntKind.i64 members, int IntKind.i64 currencies] h fun (v : Value) (h : Heap) =>
 ∃ (a : Option Addr),
 ∃ (n : Int),
 v = tuple #[pointer a, int IntKind.i64 n] ∧
 CallA Try.prog fn_ref11_New [int IntKind.i64 members, int IntKind.i64 currencies] h fun (v : Value) (h : Heap) =>
 ∃ (a_1 : Option Addr),
 ∃ (n_1 : Int),
 v = tuple #[pointer a_1, int IntKind.i64 n_1] ∧ Br (n != n_1) (Ret h K (Value.bool false)) (Br (!Option.isNone a == Option.isNone a_1) (Ret h K (Value.bool false)) (L_law11_DealDoes_0 ops opsn opsc a a_1 0 h K)))
theorem F_law11_DealDoes (members : Int) (currencies : Int) (ops : Option Addr) (opsn : Nat) (opsc : Nat) (h : Heap) (K : Value → Heap → Prop) (k : F_law11_DealDoesT members currencies ops opsn opsc h K) : CallA Try.prog fn_law11_DealDoes [int IntKind.i64 members, int IntKind.i64 currencies, slice ops opsn opsc] h K :=
 CallA.of_ev (cs := []) Try.func3 (by kernel_rfl) (fun _ _ => Try.call3 _ _) mixed (by kernel_rfl) (by kernel_rfl) k
end Go.Proofs.Ytjihfieahkbohaa
