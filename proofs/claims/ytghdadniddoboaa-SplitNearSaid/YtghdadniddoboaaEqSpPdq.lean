import Derived.Test.YtghdadniddoboaaEqN
namespace Go.Proofs.Ytghdadniddoboaa
open Go Go.Sy Go.Value
set_option linter.unusedVariables false
set_option maxRecDepth 100000
def F_slices_SortFunc_int_intT (x : Option Addr) (xn : Nat) (xc : Nat) (cmp_0 : Option Addr) (cmp_0n : Nat) (cmp_0c : Nat) (h : Heap) (K : Value → Heap → Prop) : Prop :=
 CallA Try.prog fn_math_bits_Len [int IntKind.u64 (IntKind.wrap IntKind.u64 (↑xn : Int))] h fun (v : Value) (h : Heap) =>
 ∃ (n : Int),
 v = int IntKind.i64 n ∧
 CallA Try.prog fn_slices_pdqsortCmpFunc_int [slice x xn xc, int IntKind.i64 0, int IntKind.i64 (↑xn : Int), int IntKind.i64 n, func (Fn.func fn_split_by_order) #[agg #[slice cmp_0 cmp_0n cmp_0c]] #[]] h fun (v : Value) (h : Heap) =>
 v = tuple #[] ∧ Ret h K (tuple #[])
theorem F_slices_SortFunc_int_int (x : Option Addr) (xn : Nat) (xc : Nat) (cmp_0 : Option Addr) (cmp_0n : Nat) (cmp_0c : Nat) (h : Heap) (K : Value → Heap → Prop) (k : F_slices_SortFunc_int_intT x xn xc cmp_0 cmp_0n cmp_0c h K) : CallA Try.prog fn_slices_SortFunc_int_int [slice x xn xc, func (Fn.func fn_split_by_order) #[agg #[slice cmp_0 cmp_0n cmp_0c]] #[]] h K :=
 CallA.of_ev (cs := []) Try.func57 (by kernel_rfl) (fun _ _ => Try.call57 _ _) mixed (by kernel_rfl) (by kernel_rfl) k
def L_slices_pdqsortCmpFunc_int_0 (data : Option Addr) (datan : Nat) (datac : Nat) (a : Int) (b : Int) (limit : Int) (cmp_0_0 : Option Addr) (cmp_0_0n : Nat) (cmp_0_0c : Nat) (wasBalanced : Bool) (wasPartitioned : Bool) (h : Heap) (K : Value → Heap → Prop) : Prop :=
 LoopAt Try.prog Try.f104 104 (loopK Try.f104 0) (sp 148 [(0, slice data datan datac), (1, int IntKind.i64 a), (2, int IntKind.i64 b), (3, int IntKind.i64 limit), (4, func (Fn.func fn_split_by_order) #[agg #[slice cmp_0_0 cmp_0_0n cmp_0_0c]] #[]), (10, Value.bool wasBalanced),
 (11, Value.bool wasPartitioned)]) h K
def L_slices_pdqsortCmpFunc_int_1010 (data : Option Addr) (datan : Nat) (datac : Nat) (a : Int) (b : Int) (limit : Int) (cmp_0_0 : Option Addr) (cmp_0_0n : Nat) (cmp_0_0c : Nat) (wasBalanced : Bool) (wasPartitioned : Bool) (length : Int) (h : Heap) (K : Value → Heap → Prop) : Prop :=
 CutAt Try.prog Try.f104 104 (cutK Try.f104 10) (sp 148 [(0, slice data datan datac), (1, int IntKind.i64 a), (2, int IntKind.i64 b), (3, int IntKind.i64 limit), (4, func (Fn.func fn_split_by_order) #[agg #[slice cmp_0_0 cmp_0_0n cmp_0_0c]] #[]), (10, Value.bool wasBalanced),
 (11, Value.bool wasPartitioned), (12, int IntKind.i64 length)]) h K
def L_slices_pdqsortCmpFunc_int_1015 (data : Option Addr) (datan : Nat) (datac : Nat) (a : Int) (b : Int) (limit : Int) (cmp_0_0 : Option Addr) (cmp_0_0n : Nat) (cmp_0_0c : Nat) (wasBalanced : Bool) (wasPartitioned : Bool) (length : Int) (pivot : Int) (hint : Int) (h : Heap) (K : Value → Heap → Prop) : Prop :=
 CutAt Try.prog Try.f104 104 (cutK Try.f104 15) (sp 148 [(0, slice data datan datac), (1, int IntKind.i64 a), (2, int IntKind.i64 b), (3, int IntKind.i64 limit), (4, func (Fn.func fn_split_by_order) #[agg #[slice cmp_0_0 cmp_0_0n cmp_0_0c]] #[]), (10, Value.bool wasBalanced),
 (11, Value.bool wasPartitioned), (12, int IntKind.i64 length), (13, int IntKind.i64 pivot), (14, int IntKind.i64 hint)]) h K
def L_slices_pdqsortCmpFunc_int_1017 (data : Option Addr) (datan : Nat) (datac : Nat) (a : Int) (b : Int) (limit : Int) (cmp_0_0 : Option Addr) (cmp_0_0n : Nat) (cmp_0_0c : Nat) (wasBalanced : Bool) (wasPartitioned : Bool) (length : Int) (pivot : Int) (h : Heap) (K : Value → Heap → Prop) : Prop :=
 CutAt Try.prog Try.f104 104 (cutK Try.f104 17) (sp 148 [(0, slice data datan datac), (1, int IntKind.i64 a), (2, int IntKind.i64 b), (3, int IntKind.i64 limit), (4, func (Fn.func fn_split_by_order) #[agg #[slice cmp_0_0 cmp_0_0n cmp_0_0c]] #[]), (10, Value.bool wasBalanced),
 (11, Value.bool wasPartitioned), (12, int IntKind.i64 length), (13, int IntKind.i64 pivot)]) h K
def L_slices_pdqsortCmpFunc_int_0T (data : Option Addr) (datan : Nat) (datac : Nat) (a : Int) (b : Int) (limit : Int) (cmp_0_0 : Option Addr) (cmp_0_0n : Nat) (cmp_0_0c : Nat) (wasBalanced : Bool) (wasPartitioned : Bool) (h : Heap) (K : Value → Heap → Prop) : Prop :=
 Br (decide (IntKind.wrap IntKind.i64 (b - a) ≤ 12))
 (CallA Try.prog fn_slices_insertionSortCmpFunc_int [slice data datan datac, int IntKind.i64 a, int IntKind.i64 b, func (Fn.func fn_split_by_order) #[agg #[slice cmp_0_0 cmp_0_0n cmp_0_0c]] #[]] h fun (v : Value) (h : Heap) =>
 v = tuple #[] ∧ Ret h K (tuple #[]))
 (Br (limit == 0)
 (CallA Try.prog fn_slices_heapSortCmpFunc_int [slice data datan datac, int IntKind.i64 a, int IntKind.i64 b, func (Fn.func fn_split_by_order) #[agg #[slice cmp_0_0 cmp_0_0n cmp_0_0c]] #[]] h fun (v : Value) (h : Heap) =>
 v = tuple #[] ∧ Ret h K (tuple #[]))
 (Br (!wasBalanced)
 (CallA Try.prog fn_slices_breakPatternsCmpFunc_int [slice data datan datac, int IntKind.i64 a, int IntKind.i64 b, func (Fn.func fn_split_by_order) #[agg #[slice cmp_0_0 cmp_0_0n cmp_0_0c]] #[]] h fun (v : Value) (h : Heap) =>
 v = tuple #[] ∧ L_slices_pdqsortCmpFunc_int_1010 data datan datac a b (IntKind.wrap IntKind.i64 (limit - 1)) cmp_0_0 cmp_0_0n cmp_0_0c wasBalanced wasPartitioned (IntKind.wrap IntKind.i64 (b - a)) h K)
 (L_slices_pdqsortCmpFunc_int_1010 data datan datac a b limit cmp_0_0 cmp_0_0n cmp_0_0c wasBalanced wasPartitioned (IntKind.wrap IntKind.i64 (b - a)) h K)))
theorem L_slices_pdqsortCmpFunc_int_0r (data : Option Addr) (datan : Nat) (datac : Nat) (a : Int) (b : Int) (limit : Int) (cmp_0_0 : Option Addr) (cmp_0_0n : Nat) (cmp_0_0c : Nat) (wasBalanced : Bool) (wasPartitioned : Bool) (h : Heap) (K : Value → Heap → Prop) (k : L_slices_pdqsortCmpFunc_int_0T data datan datac a b limit cmp_0_0 cmp_0_0n cmp_0_0c wasBalanced wasPartitioned h K) : L_slices_pdqsortCmpFunc_int_0 data datan datac a b limit cmp_0_0 cmp_0_0n cmp_0_0c wasBalanced wasPartitioned h K :=
 LoopAt.of_ev (cs := [10, 15, 17]) Try.func104 mixed (fun junk => by kernel_rfl) k
def L_slices_pdqsortCmpFunc_int_1010T (data : Option Addr) (datan : Nat) (datac : Nat) (a : Int) (b : Int) (limit : Int) (cmp_0_0 : Option Addr) (cmp_0_0n : Nat) (cmp_0_0c : Nat) (wasBalanced : Bool) (wasPartitioned : Bool) (length : Int) (h : Heap) (K : Value → Heap → Prop) : Prop :=
 CallA Try.prog fn_slices_choosePivotCmpFunc_int [slice data datan datac, int IntKind.i64 a, int IntKind.i64 b, func (Fn.func fn_split_by_order) #[agg #[slice cmp_0_0 cmp_0_0n cmp_0_0c]] #[]] h fun (v : Value) (h : Heap) =>
 ∃ (n : Int),
 ∃ (n_1 : Int),
 v = tuple #[int IntKind.i64 n, int IntKind.i64 n_1] ∧
 Br (n_1 == 2)
 (CallA Try.prog fn_slices_reverseRangeCmpFunc_int [slice data datan datac, int IntKind.i64 a, int IntKind.i64 b, func (Fn.func fn_split_by_order) #[agg #[slice cmp_0_0 cmp_0_0n cmp_0_0c]] #[]] h fun (v : Value) (h : Heap) =>
 v = tuple #[] ∧
 L_slices_pdqsortCmpFunc_int_1015 data datan datac a b limit cmp_0_0 cmp_0_0n cmp_0_0c wasBalanced wasPartitioned length (IntKind.wrap IntKind.i64 (IntKind.wrap IntKind.i64 (b - 1) - IntKind.wrap IntKind.i64 (n - a))) 1 h K)
 (L_slices_pdqsortCmpFunc_int_1015 data datan datac a b limit cmp_0_0 cmp_0_0n cmp_0_0c wasBalanced wasPartitioned length n n_1 h K)
theorem L_slices_pdqsortCmpFunc_int_1010r (data : Option Addr) (datan : Nat) (datac : Nat) (a : Int) (b : Int) (limit : Int) (cmp_0_0 : Option Addr) (cmp_0_0n : Nat) (cmp_0_0c : Nat) (wasBalanced : Bool) (wasPartitioned : Bool) (length : Int) (h : Heap) (K : Value → Heap → Prop) (k : L_slices_pdqsortCmpFunc_int_1010T data datan datac a b limit cmp_0_0 cmp_0_0n cmp_0_0c wasBalanced wasPartitioned length h K) : L_slices_pdqsortCmpFunc_int_1010 data datan datac a b limit cmp_0_0 cmp_0_0n cmp_0_0c wasBalanced wasPartitioned length h K :=
 CutAt.of_ev (cs := [10, 15, 17]) Try.func104 mixed (fun junk => by kernel_rfl) k
def L_slices_pdqsortCmpFunc_int_1015T (data : Option Addr) (datan : Nat) (datac : Nat) (a : Int) (b : Int) (limit : Int) (cmp_0_0 : Option Addr) (cmp_0_0n : Nat) (cmp_0_0c : Nat) (wasBalanced : Bool) (wasPartitioned : Bool) (length : Int) (pivot : Int) (hint : Int) (h : Heap) (K : Value → Heap → Prop) : Prop :=
 Br wasBalanced
 (Br wasPartitioned
 (Br (hint == 1)
 (CallA Try.prog fn_slices_partialInsertionSortCmpFunc_int [slice data datan datac, int IntKind.i64 a, int IntKind.i64 b, func (Fn.func fn_split_by_order) #[agg #[slice cmp_0_0 cmp_0_0n cmp_0_0c]] #[]] h fun (v : Value) (h : Heap) =>
 ∃ (b_1 : Bool), v = Value.bool b_1 ∧ Br b_1 (Ret h K (tuple #[])) (L_slices_pdqsortCmpFunc_int_1017 data datan datac a b limit cmp_0_0 cmp_0_0n cmp_0_0c wasBalanced wasPartitioned length pivot h K))
 (L_slices_pdqsortCmpFunc_int_1017 data datan datac a b limit cmp_0_0 cmp_0_0n cmp_0_0c wasBalanced wasPartitioned length pivot h K))
 (L_slices_pdqsortCmpFunc_int_1017 data datan datac a b limit cmp_0_0 cmp_0_0n cmp_0_0c wasBalanced wasPartitioned length pivot h K))
 (L_slices_pdqsortCmpFunc_int_1017 data datan datac a b limit cmp_0_0 cmp_0_0n cmp_0_0c wasBalanced wasPartitioned length pivot h K)
theorem L_slices_pdqsortCmpFunc_int_1015r (data : Option Addr) (datan : Nat) (datac : Nat) (a : Int) (b : Int) (limit : Int) (cmp_0_0 : Option Addr) (cmp_0_0n : Nat) (cmp_0_0c : Nat) (wasBalanced : Bool) (wasPartitioned : Bool) (length : Int) (pivot : Int) (hint : Int) (h : Heap) (K : Value → Heap → Prop) (k : L_slices_pdqsortCmpFunc_int_1015T data datan datac a b limit cmp_0_0 cmp_0_0n cmp_0_0c wasBalanced wasPartitioned length pivot hint h K) : L_slices_pdqsortCmpFunc_int_1015 data datan datac a b limit cmp_0_0 cmp_0_0n cmp_0_0c wasBalanced wasPartitioned length pivot hint h K :=
 CutAt.of_ev (cs := [10, 15, 17]) Try.func104 mixed (fun junk => by kernel_rfl) k
def L_slices_pdqsortCmpFunc_int_1017T (data : Option Addr) (datan : Nat) (datac : Nat) (a : Int) (b : Int) (limit : Int) (cmp_0_0 : Option Addr) (cmp_0_0n : Nat) (cmp_0_0c : Nat) (wasBalanced : Bool) (wasPartitioned : Bool) (length : Int) (pivot : Int) (h : Heap) (K : Value → Heap → Prop) : Prop :=
 Br (decide (a > 0))
 (0 ≤ IntKind.wrap IntKind.i64 (a - 1) ∧
 IntKind.wrap IntKind.i64 (a - 1) < (↑datan : Int) ∧
 withAddr data fun (b_1 o : Nat) =>
 ∃ (n : Int),
 Heap.cell h b_1 (o + Int.toNat (IntKind.wrap IntKind.i64 (a - 1))) = some (int IntKind.i64 n) ∧
 0 ≤ pivot ∧
 pivot < (↑datan : Int) ∧
 withAddr data fun (b_2 o : Nat) =>
 ∃ (n_1 : Int),
 Heap.cell h b_2 (o + Int.toNat pivot) = some (int IntKind.i64 n_1) ∧
 CallA Try.prog fn_split_by_order [agg #[slice cmp_0_0 cmp_0_0n cmp_0_0c], int IntKind.i64 n, int IntKind.i64 n_1] h fun (v : Value) (h : Heap) =>
 ∃ (n : Int),
 v = int IntKind.i64 n ∧
 Br (!decide (n < 0))
 (CallA Try.prog fn_slices_partitionEqualCmpFunc_int [slice data datan datac, int IntKind.i64 a, int IntKind.i64 b, int IntKind.i64 pivot, func (Fn.func fn_split_by_order) #[agg #[slice cmp_0_0 cmp_0_0n cmp_0_0c]] #[]] h
 fun (v : Value) (h : Heap) => ∃ (n : Int), v = int IntKind.i64 n ∧ L_slices_pdqsortCmpFunc_int_0 data datan datac n b limit cmp_0_0 cmp_0_0n cmp_0_0c wasBalanced wasPartitioned h K)
 (CallA Try.prog fn_slices_partitionCmpFunc_int [slice data datan datac, int IntKind.i64 a, int IntKind.i64 b, int IntKind.i64 pivot, func (Fn.func fn_split_by_order) #[agg #[slice cmp_0_0 cmp_0_0n cmp_0_0c]] #[]] h
 fun (v : Value) (h : Heap) =>
 ∃ (n : Int),
 ∃ (b_3 : Bool),
 v = tuple #[int IntKind.i64 n, Value.bool b_3] ∧
 Br (decide (IntKind.wrap IntKind.i64 (n - a) < IntKind.wrap IntKind.i64 (b - n)))
 (CallA Try.prog fn_slices_pdqsortCmpFunc_int [slice data datan datac, int IntKind.i64 a, int IntKind.i64 n, int IntKind.i64 limit, func (Fn.func fn_split_by_order) #[agg #[slice cmp_0_0 cmp_0_0n cmp_0_0c]] #[]] h
 fun (v : Value) (h : Heap) =>
 v = tuple #[] ∧
 L_slices_pdqsortCmpFunc_int_0 data datan datac (IntKind.wrap IntKind.i64 (n + 1)) b limit cmp_0_0 cmp_0_0n cmp_0_0c
 (decide (IntKind.wrap IntKind.i64 (n - a) ≥ IntKind.wrap IntKind.i64 (Int.tdiv length 8))) b_3 h K)
 (CallA Try.prog 104
 [slice data datan datac, int IntKind.i64 (IntKind.wrap IntKind.i64 (n + 1)), int IntKind.i64 b, int IntKind.i64 limit,
 func (Fn.func fn_split_by_order) #[agg #[slice cmp_0_0 cmp_0_0n cmp_0_0c]] #[]]
 h fun (v : Value) (h : Heap) =>
 v = tuple #[] ∧ L_slices_pdqsortCmpFunc_int_0 data datan datac a n limit cmp_0_0 cmp_0_0n cmp_0_0c (decide (IntKind.wrap IntKind.i64 (b - n) ≥ IntKind.wrap IntKind.i64 (Int.tdiv length 8))) b_3 h K)))
 (CallA Try.prog fn_slices_partitionCmpFunc_int [slice data datan datac, int IntKind.i64 a, int IntKind.i64 b, int IntKind.i64 pivot, func (Fn.func fn_split_by_order) #[agg #[slice cmp_0_0 cmp_0_0n cmp_0_0c]] #[]] h fun (v : Value) (h : Heap) =>
 ∃ (n : Int),
 ∃ (b_1 : Bool),
 v = tuple #[int IntKind.i64 n, Value.bool b_1] ∧
 Br (decide (IntKind.wrap IntKind.i64 (n - a) < IntKind.wrap IntKind.i64 (b - n)))
 (CallA Try.prog fn_slices_pdqsortCmpFunc_int [slice data datan datac, int IntKind.i64 a, int IntKind.i64 n, int IntKind.i64 limit, func (Fn.func fn_split_by_order) #[agg #[slice cmp_0_0 cmp_0_0n cmp_0_0c]] #[]] h
 fun (v : Value) (h : Heap) =>
 v = tuple #[] ∧
 L_slices_pdqsortCmpFunc_int_0 data datan datac (IntKind.wrap IntKind.i64 (n + 1)) b limit cmp_0_0 cmp_0_0n cmp_0_0c (decide (IntKind.wrap IntKind.i64 (n - a) ≥ IntKind.wrap IntKind.i64 (Int.tdiv length 8))) b_1 h K)
 (CallA Try.prog 104
 [slice data datan datac, int IntKind.i64 (IntKind.wrap IntKind.i64 (n + 1)), int IntKind.i64 b, int IntKind.i64 limit, func (Fn.func fn_split_by_order) #[agg #[slice cmp_0_0 cmp_0_0n cmp_0_0c]] #[]] h
 fun (v : Value) (h : Heap) => v = tuple #[] ∧ L_slices_pdqsortCmpFunc_int_0 data datan datac a n limit cmp_0_0 cmp_0_0n cmp_0_0c (decide (IntKind.wrap IntKind.i64 (b - n) ≥ IntKind.wrap IntKind.i64 (Int.tdiv length 8))) b_1 h K))
theorem L_slices_pdqsortCmpFunc_int_1017r (data : Option Addr) (datan : Nat) (datac : Nat) (a : Int) (b : Int) (limit : Int) (cmp_0_0 : Option Addr) (cmp_0_0n : Nat) (cmp_0_0c : Nat) (wasBalanced : Bool) (wasPartitioned : Bool) (length : Int) (pivot : Int) (h : Heap) (K : Value → Heap → Prop) (k : L_slices_pdqsortCmpFunc_int_1017T data datan datac a b limit cmp_0_0 cmp_0_0n cmp_0_0c wasBalanced wasPartitioned length pivot h K) : L_slices_pdqsortCmpFunc_int_1017 data datan datac a b limit cmp_0_0 cmp_0_0n cmp_0_0c wasBalanced wasPartitioned length pivot h K :=
 CutAt.of_ev (cs := [10, 15, 17]) Try.func104 mixed (fun junk => by kernel_rfl) k
def F_slices_pdqsortCmpFunc_intT (data : Option Addr) (datan : Nat) (datac : Nat) (a : Int) (b : Int) (limit : Int) (cmp_0 : Option Addr) (cmp_0n : Nat) (cmp_0c : Nat) (h : Heap) (K : Value → Heap → Prop) : Prop :=
 L_slices_pdqsortCmpFunc_int_0 data datan datac a b limit cmp_0 cmp_0n cmp_0c true true h K
theorem F_slices_pdqsortCmpFunc_int (data : Option Addr) (datan : Nat) (datac : Nat) (a : Int) (b : Int) (limit : Int) (cmp_0 : Option Addr) (cmp_0n : Nat) (cmp_0c : Nat) (h : Heap) (K : Value → Heap → Prop) (k : F_slices_pdqsortCmpFunc_intT data datan datac a b limit cmp_0 cmp_0n cmp_0c h K) : CallA Try.prog fn_slices_pdqsortCmpFunc_int [slice data datan datac, int IntKind.i64 a, int IntKind.i64 b, int IntKind.i64 limit, func (Fn.func fn_split_by_order) #[agg #[slice cmp_0 cmp_0n cmp_0c]] #[]] h K :=
 CallA.of_ev (cs := [10, 15, 17]) Try.func104 (by kernel_rfl) (fun _ _ => Try.call104 _ _) mixed (by kernel_rfl) (by kernel_rfl) k
end Go.Proofs.Ytghdadniddoboaa
