import Derived.Test.YtghdadniddoboaaEqN
namespace Go.Proofs.Ytghdadniddoboaa
open Go Go.Sy Go.Value
set_option linter.unusedVariables false
set_option maxRecDepth 100000
def L_slices_breakPatternsCmpFunc_int_0 (data : Option Addr) (datan : Nat) (datac : Nat) (a : Int) (length : Int) (random : Nat) (modulus : Int) (idx : Int) (h : Heap) (K : Value → Heap → Prop) : Prop :=
 LoopAt Try.prog Try.f139 139 (loopK Try.f139 0) (sp 67 [(0, slice data datan datac), (1, int IntKind.i64 a), (8, int IntKind.i64 length), (9, pointer (some { block := random, off := 0 })), (10, int IntKind.u64 modulus), (11, int IntKind.i64 idx)]) h K
def L_slices_breakPatternsCmpFunc_int_0T (data : Option Addr) (datan : Nat) (datac : Nat) (a : Int) (length : Int) (random : Nat) (modulus : Int) (idx : Int) (h : Heap) (K : Value → Heap → Prop) : Prop :=
 Br (decide (idx ≤ IntKind.wrap IntKind.i64 (IntKind.wrap IntKind.i64 (a + IntKind.wrap IntKind.i64 (IntKind.wrap IntKind.i64 (Int.tdiv length 4) * 2)) + 1)))
 (CallA Try.prog fn_pslices_xorshift_Next [pointer (some { block := random, off := 0 })] h fun (v : Value) (h : Heap) =>
 ∃ (n : Int),
 v = int IntKind.u64 n ∧
 Br (decide (IntKind.wrap IntKind.i64 (IntKind.wrap IntKind.u64 (↑(BitVec.toNat (BitVec.ofInt 64 n &&& BitVec.ofInt 64 (IntKind.wrap IntKind.u64 (modulus - 1)))) : Int)) ≥ length))
 (0 ≤
 IntKind.wrap IntKind.i64
 (a + IntKind.wrap IntKind.i64 (IntKind.wrap IntKind.i64 (IntKind.wrap IntKind.u64 (↑(BitVec.toNat (BitVec.ofInt 64 n &&& BitVec.ofInt 64 (IntKind.wrap IntKind.u64 (modulus - 1)))) : Int)) - length)) ∧
 IntKind.wrap IntKind.i64
 (a + IntKind.wrap IntKind.i64 (IntKind.wrap IntKind.i64 (IntKind.wrap IntKind.u64 (↑(BitVec.toNat (BitVec.ofInt 64 n &&& BitVec.ofInt 64 (IntKind.wrap IntKind.u64 (modulus - 1)))) : Int)) - length)) <
 (↑datan : Int) ∧
 withAddr data fun (b o : Nat) =>
 ∃ (n_1 : Int),
 Heap.cell h b
 (o +
 Int.toNat
 (IntKind.wrap IntKind.i64
 (a +
 IntKind.wrap IntKind.i64
 (IntKind.wrap IntKind.i64 (IntKind.wrap IntKind.u64 (↑(BitVec.toNat (BitVec.ofInt 64 n &&& BitVec.ofInt 64 (IntKind.wrap IntKind.u64 (modulus - 1)))) : Int)) - length)))) =
 some (int IntKind.i64 n_1) ∧
 0 ≤ idx ∧
 idx < (↑datan : Int) ∧
 withAddr data fun (b o : Nat) =>
 ∃ (n_2 : Int),
 Heap.cell h b (o + Int.toNat idx) = some (int IntKind.i64 n_2) ∧
 0 ≤ idx ∧
 idx < (↑datan : Int) ∧
 withAddr data fun (b o : Nat) =>
 Heap.canSt h b (o + Int.toNat idx) 1 ∧
 0 ≤
 IntKind.wrap IntKind.i64
 (a +
 IntKind.wrap IntKind.i64
 (IntKind.wrap IntKind.i64 (IntKind.wrap IntKind.u64 (↑(BitVec.toNat (BitVec.ofInt 64 n &&& BitVec.ofInt 64 (IntKind.wrap IntKind.u64 (modulus - 1)))) : Int)) - length)) ∧
 IntKind.wrap IntKind.i64
 (a +
 IntKind.wrap IntKind.i64
 (IntKind.wrap IntKind.i64 (IntKind.wrap IntKind.u64 (↑(BitVec.toNat (BitVec.ofInt 64 n &&& BitVec.ofInt 64 (IntKind.wrap IntKind.u64 (modulus - 1)))) : Int)) - length)) <
 (↑datan : Int) ∧
 withAddr data fun (b_1 o_1 : Nat) =>
 Heap.canSt (Heap.setN h b (o + Int.toNat idx) [int IntKind.i64 n_1]) b_1
 (o_1 +
 Int.toNat
 (IntKind.wrap IntKind.i64
 (a +
 IntKind.wrap IntKind.i64
 (IntKind.wrap IntKind.i64 (IntKind.wrap IntKind.u64 (↑(BitVec.toNat (BitVec.ofInt 64 n &&& BitVec.ofInt 64 (IntKind.wrap IntKind.u64 (modulus - 1)))) : Int)) -
 length))))
 1 ∧
 L_slices_breakPatternsCmpFunc_int_0 data datan datac a length random modulus (IntKind.wrap IntKind.i64 (idx + 1))
 (Heap.setN (Heap.setN h b (o + Int.toNat idx) [int IntKind.i64 n_1]) b_1
 (o_1 +
 Int.toNat
 (IntKind.wrap IntKind.i64
 (a +
 IntKind.wrap IntKind.i64
 (IntKind.wrap IntKind.i64 (IntKind.wrap IntKind.u64 (↑(BitVec.toNat (BitVec.ofInt 64 n &&& BitVec.ofInt 64 (IntKind.wrap IntKind.u64 (modulus - 1)))) : Int)) -
 length))))
 [int IntKind.i64 n_2])
 K)
 (0 ≤ IntKind.wrap IntKind.i64 (a + IntKind.wrap IntKind.i64 (IntKind.wrap IntKind.u64 (↑(BitVec.toNat (BitVec.ofInt 64 n &&& BitVec.ofInt 64 (IntKind.wrap IntKind.u64 (modulus - 1)))) : Int))) ∧
 IntKind.wrap IntKind.i64 (a + IntKind.wrap IntKind.i64 (IntKind.wrap IntKind.u64 (↑(BitVec.toNat (BitVec.ofInt 64 n &&& BitVec.ofInt 64 (IntKind.wrap IntKind.u64 (modulus - 1)))) : Int))) < (↑datan : Int) ∧
 withAddr data fun (b o : Nat) =>
 ∃ (n_1 : Int),
 Heap.cell h b
 (o +
 Int.toNat
 (IntKind.wrap IntKind.i64 (a + IntKind.wrap IntKind.i64 (IntKind.wrap IntKind.u64 (↑(BitVec.toNat (BitVec.ofInt 64 n &&& BitVec.ofInt 64 (IntKind.wrap IntKind.u64 (modulus - 1)))) : Int))))) =
 some (int IntKind.i64 n_1) ∧
 0 ≤ idx ∧
 idx < (↑datan : Int) ∧
 withAddr data fun (b o : Nat) =>
 ∃ (n_2 : Int),
 Heap.cell h b (o + Int.toNat idx) = some (int IntKind.i64 n_2) ∧
 0 ≤ idx ∧
 idx < (↑datan : Int) ∧
 withAddr data fun (b o : Nat) =>
 Heap.canSt h b (o + Int.toNat idx) 1 ∧
 0 ≤
 IntKind.wrap IntKind.i64
 (a + IntKind.wrap IntKind.i64 (IntKind.wrap IntKind.u64 (↑(BitVec.toNat (BitVec.ofInt 64 n &&& BitVec.ofInt 64 (IntKind.wrap IntKind.u64 (modulus - 1)))) : Int))) ∧
 IntKind.wrap IntKind.i64
 (a + IntKind.wrap IntKind.i64 (IntKind.wrap IntKind.u64 (↑(BitVec.toNat (BitVec.ofInt 64 n &&& BitVec.ofInt 64 (IntKind.wrap IntKind.u64 (modulus - 1)))) : Int))) <
 (↑datan : Int) ∧
 withAddr data fun (b_1 o_1 : Nat) =>
 Heap.canSt (Heap.setN h b (o + Int.toNat idx) [int IntKind.i64 n_1]) b_1
 (o_1 +
 Int.toNat
 (IntKind.wrap IntKind.i64
 (a + IntKind.wrap IntKind.i64 (IntKind.wrap IntKind.u64 (↑(BitVec.toNat (BitVec.ofInt 64 n &&& BitVec.ofInt 64 (IntKind.wrap IntKind.u64 (modulus - 1)))) : Int)))))
 1 ∧
 L_slices_breakPatternsCmpFunc_int_0 data datan datac a length random modulus (IntKind.wrap IntKind.i64 (idx + 1))
 (Heap.setN (Heap.setN h b (o + Int.toNat idx) [int IntKind.i64 n_1]) b_1
 (o_1 +
 Int.toNat
 (IntKind.wrap IntKind.i64
 (a + IntKind.wrap IntKind.i64 (IntKind.wrap IntKind.u64 (↑(BitVec.toNat (BitVec.ofInt 64 n &&& BitVec.ofInt 64 (IntKind.wrap IntKind.u64 (modulus - 1)))) : Int)))))
 [int IntKind.i64 n_2])
 K))
 (Ret h K (tuple #[]))
theorem L_slices_breakPatternsCmpFunc_int_0r (data : Option Addr) (datan : Nat) (datac : Nat) (a : Int) (length : Int) (random : Nat) (modulus : Int) (idx : Int) (h : Heap) (K : Value → Heap → Prop) (k : L_slices_breakPatternsCmpFunc_int_0T data datan datac a length random modulus idx h K) : L_slices_breakPatternsCmpFunc_int_0 data datan datac a length random modulus idx h K :=
 LoopAt.of_ev (cs := []) Try.func139 mixed (fun junk => by kernel_rfl) k
def F_slices_breakPatternsCmpFunc_intT (data : Option Addr) (datan : Nat) (datac : Nat) (a : Int) (b : Int) (cmp_0 : Option Addr) (cmp_0n : Nat) (cmp_0c : Nat) (h : Heap) (K : Value → Heap → Prop) : Prop :=
 Br (decide (IntKind.wrap IntKind.i64 (b - a) ≥ 8))
 (newB h [int IntKind.u64 0] 212 fun (r : Nat) (h : Heap) =>
 Heap.canSt h r 0 1 ∧
 CallA Try.prog fn_slices_nextPowerOfTwo [int IntKind.i64 (IntKind.wrap IntKind.i64 (b - a))] (Heap.setN h r 0 [int IntKind.u64 (IntKind.wrap IntKind.u64 (IntKind.wrap IntKind.i64 (b - a)))]) fun (v : Value) (h : Heap) =>
 ∃ (n : Int),
 v = int IntKind.u64 n ∧
 L_slices_breakPatternsCmpFunc_int_0 data datan datac a (IntKind.wrap IntKind.i64 (b - a)) r n
 (IntKind.wrap IntKind.i64 (IntKind.wrap IntKind.i64 (a + IntKind.wrap IntKind.i64 (IntKind.wrap IntKind.i64 (Int.tdiv (IntKind.wrap IntKind.i64 (b - a)) 4) * 2)) - 1)) h K)
 (Ret h K (tuple #[]))
theorem F_slices_breakPatternsCmpFunc_int (data : Option Addr) (datan : Nat) (datac : Nat) (a : Int) (b : Int) (cmp_0 : Option Addr) (cmp_0n : Nat) (cmp_0c : Nat) (h : Heap) (K : Value → Heap → Prop) (k : F_slices_breakPatternsCmpFunc_intT data datan datac a b cmp_0 cmp_0n cmp_0c h K) : CallA Try.prog fn_slices_breakPatternsCmpFunc_int [slice data datan datac, int IntKind.i64 a, int IntKind.i64 b, func (Fn.func fn_split_by_order) #[agg #[slice cmp_0 cmp_0n cmp_0c]] #[]] h K :=
 CallA.of_ev (cs := []) Try.func139 (by kernel_rfl) (fun _ _ => Try.call139 _ _) mixed (by kernel_rfl) (by kernel_rfl) k
def F_slices_choosePivotCmpFunc_intT (data : Option Addr) (datan : Nat) (datac : Nat) (a : Int) (b : Int) (cmp_0 : Option Addr) (cmp_0n : Nat) (cmp_0c : Nat) (h : Heap) (K : Value → Heap → Prop) : Prop :=
 newB h [int IntKind.i64 0] 3 fun (r : Nat) (h : Heap) =>
 Br (decide (IntKind.wrap IntKind.i64 (b - a) ≥ 8))
 (Br (decide (IntKind.wrap IntKind.i64 (b - a) ≥ 50))
 (CallA Try.prog 167
 [slice data datan datac, int IntKind.i64 (IntKind.wrap IntKind.i64 (a + IntKind.wrap IntKind.i64 (IntKind.wrap IntKind.i64 (Int.tdiv (IntKind.wrap IntKind.i64 (b - a)) 4) * 1))),
 pointer (some { block := r, off := 0 }), func (Fn.func fn_split_by_order) #[agg #[slice cmp_0 cmp_0n cmp_0c]] #[]]
 h fun (v : Value) (h : Heap) =>
 ∃ (n : Int),
 v = int IntKind.i64 n ∧
 CallA Try.prog 167
 [slice data datan datac, int IntKind.i64 (IntKind.wrap IntKind.i64 (a + IntKind.wrap IntKind.i64 (IntKind.wrap IntKind.i64 (Int.tdiv (IntKind.wrap IntKind.i64 (b - a)) 4) * 2))),
 pointer (some { block := r, off := 0 }), func (Fn.func fn_split_by_order) #[agg #[slice cmp_0 cmp_0n cmp_0c]] #[]]
 h fun (v : Value) (h : Heap) =>
 ∃ (n_1 : Int),
 v = int IntKind.i64 n_1 ∧
 CallA Try.prog 167
 [slice data datan datac, int IntKind.i64 (IntKind.wrap IntKind.i64 (a + IntKind.wrap IntKind.i64 (IntKind.wrap IntKind.i64 (Int.tdiv (IntKind.wrap IntKind.i64 (b - a)) 4) * 3))),
 pointer (some { block := r, off := 0 }), func (Fn.func fn_split_by_order) #[agg #[slice cmp_0 cmp_0n cmp_0c]] #[]]
 h fun (v : Value) (h : Heap) =>
 ∃ (n_2 : Int),
 v = int IntKind.i64 n_2 ∧
 CallA Try.prog 168
 [slice data datan datac, int IntKind.i64 n, int IntKind.i64 n_1, int IntKind.i64 n_2, pointer (some { block := r, off := 0 }), func (Fn.func fn_split_by_order) #[agg #[slice cmp_0 cmp_0n cmp_0c]] #[]] h
 fun (v : Value) (h : Heap) =>
 ∃ (n : Int),
 v = int IntKind.i64 n ∧
 ∃ (n_3 : Int),
 Heap.cell h r 0 = some (int IntKind.i64 n_3) ∧
 Br (n_3 == 0) (Ret h K (tuple #[int IntKind.i64 n, int IntKind.i64 1]))
 (Br (n_3 == 12) (Ret h K (tuple #[int IntKind.i64 n, int IntKind.i64 2])) (Ret h K (tuple #[int IntKind.i64 n, int IntKind.i64 0]))))
 (CallA Try.prog 168
 [slice data datan datac, int IntKind.i64 (IntKind.wrap IntKind.i64 (a + IntKind.wrap IntKind.i64 (IntKind.wrap IntKind.i64 (Int.tdiv (IntKind.wrap IntKind.i64 (b - a)) 4) * 1))),
 int IntKind.i64 (IntKind.wrap IntKind.i64 (a + IntKind.wrap IntKind.i64 (IntKind.wrap IntKind.i64 (Int.tdiv (IntKind.wrap IntKind.i64 (b - a)) 4) * 2))),
 int IntKind.i64 (IntKind.wrap IntKind.i64 (a + IntKind.wrap IntKind.i64 (IntKind.wrap IntKind.i64 (Int.tdiv (IntKind.wrap IntKind.i64 (b - a)) 4) * 3))), pointer (some { block := r, off := 0 }),
 func (Fn.func fn_split_by_order) #[agg #[slice cmp_0 cmp_0n cmp_0c]] #[]]
 h fun (v : Value) (h : Heap) =>
 ∃ (n : Int),
 v = int IntKind.i64 n ∧
 ∃ (n_1 : Int),
 Heap.cell h r 0 = some (int IntKind.i64 n_1) ∧
 Br (n_1 == 0) (Ret h K (tuple #[int IntKind.i64 n, int IntKind.i64 1]))
 (Br (n_1 == 12) (Ret h K (tuple #[int IntKind.i64 n, int IntKind.i64 2])) (Ret h K (tuple #[int IntKind.i64 n, int IntKind.i64 0])))))
 (∃ (n : Int),
 Heap.cell h r 0 = some (int IntKind.i64 n) ∧
 Br (n == 0) (Ret h K (tuple #[int IntKind.i64 (IntKind.wrap IntKind.i64 (a + IntKind.wrap IntKind.i64 (IntKind.wrap IntKind.i64 (Int.tdiv (IntKind.wrap IntKind.i64 (b - a)) 4) * 2))), int IntKind.i64 1]))
 (Br (n == 12) (Ret h K (tuple #[int IntKind.i64 (IntKind.wrap IntKind.i64 (a + IntKind.wrap IntKind.i64 (IntKind.wrap IntKind.i64 (Int.tdiv (IntKind.wrap IntKind.i64 (b - a)) 4) * 2))), int IntKind.i64 2]))
 (Ret h K (tuple #[int IntKind.i64 (IntKind.wrap IntKind.i64 (a + IntKind.wrap IntKind.i64 (IntKind.wrap IntKind.i64 (Int.tdiv (IntKind.wrap IntKind.i64 (b - a)) 4) * 2))), int IntKind.i64 0]))))
theorem F_slices_choosePivotCmpFunc_int (data : Option Addr) (datan : Nat) (datac : Nat) (a : Int) (b : Int) (cmp_0 : Option Addr) (cmp_0n : Nat) (cmp_0c : Nat) (h : Heap) (K : Value → Heap → Prop) (k : F_slices_choosePivotCmpFunc_intT data datan datac a b cmp_0 cmp_0n cmp_0c h K) : CallA Try.prog fn_slices_choosePivotCmpFunc_int [slice data datan datac, int IntKind.i64 a, int IntKind.i64 b, func (Fn.func fn_split_by_order) #[agg #[slice cmp_0 cmp_0n cmp_0c]] #[]] h K :=
 CallA.of_ev (cs := []) Try.func140 (by kernel_rfl) (fun _ _ => Try.call140 _ _) mixed (by kernel_rfl) (by kernel_rfl) k
def F_slices_order2CmpFunc_intT (data : Option Addr) (datan : Nat) (datac : Nat) (a : Int) (b : Int) (swaps : Option Addr) (cmp_0 : Option Addr) (cmp_0n : Nat) (cmp_0c : Nat) (h : Heap) (K : Value → Heap → Prop) : Prop :=
 0 ≤ b ∧
 b < (↑datan : Int) ∧
 withAddr data fun (b_1 o : Nat) =>
 ∃ (n : Int),
 Heap.cell h b_1 (o + Int.toNat b) = some (int IntKind.i64 n) ∧
 0 ≤ a ∧
 a < (↑datan : Int) ∧
 withAddr data fun (b_2 o : Nat) =>
 ∃ (n_1 : Int),
 Heap.cell h b_2 (o + Int.toNat a) = some (int IntKind.i64 n_1) ∧
 CallA Try.prog fn_split_by_order [agg #[slice cmp_0 cmp_0n cmp_0c], int IntKind.i64 n, int IntKind.i64 n_1] h fun (v : Value) (h : Heap) =>
 ∃ (n : Int),
 v = int IntKind.i64 n ∧
 Br (decide (n < 0))
 (withAddr swaps fun (b_3 o : Nat) =>
 ∃ (n : Int),
 Heap.cell h b_3 o = some (int IntKind.i64 n) ∧
 withAddr swaps fun (b_4 o : Nat) => Heap.canSt h b_4 o 1 ∧ Ret (Heap.setN h b_4 o [int IntKind.i64 (IntKind.wrap IntKind.i64 (n + 1))]) K (tuple #[int IntKind.i64 b, int IntKind.i64 a]))
 (Ret h K (tuple #[int IntKind.i64 a, int IntKind.i64 b]))
theorem F_slices_order2CmpFunc_int (data : Option Addr) (datan : Nat) (datac : Nat) (a : Int) (b : Int) (swaps : Option Addr) (cmp_0 : Option Addr) (cmp_0n : Nat) (cmp_0c : Nat) (h : Heap) (K : Value → Heap → Prop) (k : F_slices_order2CmpFunc_intT data datan datac a b swaps cmp_0 cmp_0n cmp_0c h K) : CallA Try.prog fn_slices_order2CmpFunc_int [slice data datan datac, int IntKind.i64 a, int IntKind.i64 b, pointer swaps, func (Fn.func fn_split_by_order) #[agg #[slice cmp_0 cmp_0n cmp_0c]] #[]] h K :=
 CallA.of_ev (cs := []) Try.func171 (by kernel_rfl) (fun _ _ => Try.call171 _ _) mixed (by kernel_rfl) (by kernel_rfl) k
def F_slices_medianCmpFunc_intT (data : Option Addr) (datan : Nat) (datac : Nat) (a : Int) (b : Int) (c : Int) (swaps : Option Addr) (cmp_0 : Option Addr) (cmp_0n : Nat) (cmp_0c : Nat) (h : Heap) (K : Value → Heap → Prop) : Prop :=
 CallA Try.prog fn_slices_order2CmpFunc_int [slice data datan datac, int IntKind.i64 a, int IntKind.i64 b, pointer swaps, func (Fn.func fn_split_by_order) #[agg #[slice cmp_0 cmp_0n cmp_0c]] #[]] h fun (v : Value) (h : Heap) =>
 ∃ (n : Int),
 ∃ (n_1 : Int),
 v = tuple #[int IntKind.i64 n, int IntKind.i64 n_1] ∧
 CallA Try.prog fn_slices_order2CmpFunc_int [slice data datan datac, int IntKind.i64 n_1, int IntKind.i64 c, pointer swaps, func (Fn.func fn_split_by_order) #[agg #[slice cmp_0 cmp_0n cmp_0c]] #[]] h fun (v : Value) (h : Heap) =>
 ∃ (n_2 : Int),
 ∃ (n_3 : Int),
 v = tuple #[int IntKind.i64 n_2, int IntKind.i64 n_3] ∧
 CallA Try.prog fn_slices_order2CmpFunc_int [slice data datan datac, int IntKind.i64 n, int IntKind.i64 n_2, pointer swaps, func (Fn.func fn_split_by_order) #[agg #[slice cmp_0 cmp_0n cmp_0c]] #[]] h fun (v : Value) (h : Heap) =>
 ∃ (n : Int), ∃ (n_4 : Int), v = tuple #[int IntKind.i64 n, int IntKind.i64 n_4] ∧ Ret h K (int IntKind.i64 n_4)
theorem F_slices_medianCmpFunc_int (data : Option Addr) (datan : Nat) (datac : Nat) (a : Int) (b : Int) (c : Int) (swaps : Option Addr) (cmp_0 : Option Addr) (cmp_0n : Nat) (cmp_0c : Nat) (h : Heap) (K : Value → Heap → Prop) (k : F_slices_medianCmpFunc_intT data datan datac a b c swaps cmp_0 cmp_0n cmp_0c h K) : CallA Try.prog fn_slices_medianCmpFunc_int [slice data datan datac, int IntKind.i64 a, int IntKind.i64 b, int IntKind.i64 c, pointer swaps, func (Fn.func fn_split_by_order) #[agg #[slice cmp_0 cmp_0n cmp_0c]] #[]] h K :=
 CallA.of_ev (cs := []) Try.func168 (by kernel_rfl) (fun _ _ => Try.call168 _ _) mixed (by kernel_rfl) (by kernel_rfl) k
def F_slices_medianAdjacentCmpFunc_intT (data : Option Addr) (datan : Nat) (datac : Nat) (a : Int) (swaps : Option Addr) (cmp_0 : Option Addr) (cmp_0n : Nat) (cmp_0c : Nat) (h : Heap) (K : Value → Heap → Prop) : Prop :=
 CallA Try.prog 168
 [slice data datan datac, int IntKind.i64 (IntKind.wrap IntKind.i64 (a - 1)), int IntKind.i64 a, int IntKind.i64 (IntKind.wrap IntKind.i64 (a + 1)), pointer swaps,
 func (Fn.func fn_split_by_order) #[agg #[slice cmp_0 cmp_0n cmp_0c]] #[]]
 h fun (v : Value) (h : Heap) => ∃ (n : Int), v = int IntKind.i64 n ∧ Ret h K (int IntKind.i64 n)
theorem F_slices_medianAdjacentCmpFunc_int (data : Option Addr) (datan : Nat) (datac : Nat) (a : Int) (swaps : Option Addr) (cmp_0 : Option Addr) (cmp_0n : Nat) (cmp_0c : Nat) (h : Heap) (K : Value → Heap → Prop) (k : F_slices_medianAdjacentCmpFunc_intT data datan datac a swaps cmp_0 cmp_0n cmp_0c h K) : CallA Try.prog fn_slices_medianAdjacentCmpFunc_int [slice data datan datac, int IntKind.i64 a, pointer swaps, func (Fn.func fn_split_by_order) #[agg #[slice cmp_0 cmp_0n cmp_0c]] #[]] h K :=
 CallA.of_ev (cs := []) Try.func167 (by kernel_rfl) (fun _ _ => Try.call167 _ _) mixed (by kernel_rfl) (by kernel_rfl) k
def F_slices_nextPowerOfTwoT (length : Int) (h : Heap) (K : Value → Heap → Prop) : Prop :=
 CallA Try.prog fn_math_bits_Len [int IntKind.u64 (IntKind.wrap IntKind.u64 length)] h fun (v : Value) (h : Heap) =>
 ∃ (n : Int), v = int IntKind.i64 n ∧ Br (decide (0 ≤ n)) (Ret h K (int IntKind.u64 (IntKind.wrap IntKind.u64 (1 * 2 ^ min (Int.toNat n) 64)))) False
theorem F_slices_nextPowerOfTwo (length : Int) (h : Heap) (K : Value → Heap → Prop) (k : F_slices_nextPowerOfTwoT length h K) : CallA Try.prog fn_slices_nextPowerOfTwo [int IntKind.i64 length] h K :=
 CallA.of_ev (cs := []) Try.func165 (by kernel_rfl) (fun _ _ => Try.call165 _ _) mixed (by kernel_rfl) (by kernel_rfl) k
def F_pslices_xorshift_NextT (r : Option Addr) (h : Heap) (K : Value → Heap → Prop) : Prop :=
 withAddr r fun (b o : Nat) =>
 ∃ (n : Int),
 Heap.cell h b o = some (int IntKind.u64 n) ∧
 withAddr r fun (b o : Nat) =>
 ∃ (n_1 : Int),
 Heap.cell h b o = some (int IntKind.u64 n_1) ∧
 withAddr r fun (b o : Nat) =>
 Heap.canSt h b o 1 ∧
 withAddr r fun (b_1 o_1 : Nat) =>
 ∃ (n_2 : Int),
 Heap.cell (Heap.setN h b o [int IntKind.u64 (IntKind.wrap IntKind.u64 (↑(BitVec.toNat (BitVec.ofInt 64 n ^^^ BitVec.ofInt 64 (IntKind.wrap IntKind.u64 (n_1 * 8192)))) : Int))]) b_1 o_1 =
 some (int IntKind.u64 n_2) ∧
 withAddr r fun (b_2 o_2 : Nat) =>
 ∃ (n_3 : Int),
 Heap.cell (Heap.setN h b o [int IntKind.u64 (IntKind.wrap IntKind.u64 (↑(BitVec.toNat (BitVec.ofInt 64 n ^^^ BitVec.ofInt 64 (IntKind.wrap IntKind.u64 (n_1 * 8192)))) : Int))]) b_2 o_2 =
 some (int IntKind.u64 n_3) ∧
 withAddr r fun (b_3 o_3 : Nat) =>
 Heap.canSt (Heap.setN h b o [int IntKind.u64 (IntKind.wrap IntKind.u64 (↑(BitVec.toNat (BitVec.ofInt 64 n ^^^ BitVec.ofInt 64 (IntKind.wrap IntKind.u64 (n_1 * 8192)))) : Int))]) b_3 o_3 1 ∧
 withAddr r fun (b_4 o_4 : Nat) =>
 ∃ (n_4 : Int),
 Heap.cell
 (Heap.setN (Heap.setN h b o [int IntKind.u64 (IntKind.wrap IntKind.u64 (↑(BitVec.toNat (BitVec.ofInt 64 n ^^^ BitVec.ofInt 64 (IntKind.wrap IntKind.u64 (n_1 * 8192)))) : Int))])
 b_3 o_3 [int IntKind.u64 (IntKind.wrap IntKind.u64 (↑(BitVec.toNat (BitVec.ofInt 64 n_2 ^^^ BitVec.ofInt 64 (Int.fdiv n_3 128))) : Int))])
 b_4 o_4 =
 some (int IntKind.u64 n_4) ∧
 withAddr r fun (b_5 o_5 : Nat) =>
 ∃ (n_5 : Int),
 Heap.cell
 (Heap.setN
 (Heap.setN h b o [int IntKind.u64 (IntKind.wrap IntKind.u64 (↑(BitVec.toNat (BitVec.ofInt 64 n ^^^ BitVec.ofInt 64 (IntKind.wrap IntKind.u64 (n_1 * 8192)))) : Int))]) b_3
 o_3 [int IntKind.u64 (IntKind.wrap IntKind.u64 (↑(BitVec.toNat (BitVec.ofInt 64 n_2 ^^^ BitVec.ofInt 64 (Int.fdiv n_3 128))) : Int))])
 b_5 o_5 =
 some (int IntKind.u64 n_5) ∧
 withAddr r fun (b_6 o_6 : Nat) =>
 Heap.canSt
 (Heap.setN
 (Heap.setN h b o [int IntKind.u64 (IntKind.wrap IntKind.u64 (↑(BitVec.toNat (BitVec.ofInt 64 n ^^^ BitVec.ofInt 64 (IntKind.wrap IntKind.u64 (n_1 * 8192)))) : Int))])
 b_3 o_3 [int IntKind.u64 (IntKind.wrap IntKind.u64 (↑(BitVec.toNat (BitVec.ofInt 64 n_2 ^^^ BitVec.ofInt 64 (Int.fdiv n_3 128))) : Int))])
 b_6 o_6 1 ∧
 withAddr r fun (b_7 o_7 : Nat) =>
 ∃ (n_6 : Int),
 Heap.cell
 (Heap.setN
 (Heap.setN
 (Heap.setN h b o
 [int IntKind.u64 (IntKind.wrap IntKind.u64 (↑(BitVec.toNat (BitVec.ofInt 64 n ^^^ BitVec.ofInt 64 (IntKind.wrap IntKind.u64 (n_1 * 8192)))) : Int))])
 b_3 o_3 [int IntKind.u64 (IntKind.wrap IntKind.u64 (↑(BitVec.toNat (BitVec.ofInt 64 n_2 ^^^ BitVec.ofInt 64 (Int.fdiv n_3 128))) : Int))])
 b_6 o_6
 [int IntKind.u64 (IntKind.wrap IntKind.u64 (↑(BitVec.toNat (BitVec.ofInt 64 n_4 ^^^ BitVec.ofInt 64 (IntKind.wrap IntKind.u64 (n_5 * 131072)))) : Int))])
 b_7 o_7 =
 some (int IntKind.u64 n_6) ∧
 Ret
 (Heap.setN
 (Heap.setN
 (Heap.setN h b o
 [int IntKind.u64 (IntKind.wrap IntKind.u64 (↑(BitVec.toNat (BitVec.ofInt 64 n ^^^ BitVec.ofInt 64 (IntKind.wrap IntKind.u64 (n_1 * 8192)))) : Int))])
 b_3 o_3 [int IntKind.u64 (IntKind.wrap IntKind.u64 (↑(BitVec.toNat (BitVec.ofInt 64 n_2 ^^^ BitVec.ofInt 64 (Int.fdiv n_3 128))) : Int))])
 b_6 o_6 [int IntKind.u64 (IntKind.wrap IntKind.u64 (↑(BitVec.toNat (BitVec.ofInt 64 n_4 ^^^ BitVec.ofInt 64 (IntKind.wrap IntKind.u64 (n_5 * 131072)))) : Int))])
 K (int IntKind.u64 n_6)
theorem F_pslices_xorshift_Next (r : Option Addr) (h : Heap) (K : Value → Heap → Prop) (k : F_pslices_xorshift_NextT r h K) : CallA Try.prog fn_pslices_xorshift_Next [pointer r] h K :=
 CallA.of_ev (cs := []) Try.func166 (by kernel_rfl) (fun _ _ => Try.call166 _ _) mixed (by kernel_rfl) (by kernel_rfl) k
def F_math_bits_LenT (x : Int) (h : Heap) (K : Value → Heap → Prop) : Prop :=
 CallA Try.prog fn_math_bits_Len64 [int IntKind.u64 x] h fun (v : Value) (h : Heap) => ∃ (n : Int), v = int IntKind.i64 n ∧ Ret h K (int IntKind.i64 n)
theorem F_math_bits_Len (x : Int) (h : Heap) (K : Value → Heap → Prop) (k : F_math_bits_LenT x h K) : CallA Try.prog fn_math_bits_Len [int IntKind.u64 x] h K :=
 CallA.of_ev (cs := []) Try.func105 (by kernel_rfl) (fun _ _ => Try.call105 _ _) mixed (by kernel_rfl) (by kernel_rfl) k
def F_math_bits_Len64T (x : Int) (h : Heap) (K : Value → Heap → Prop) : Prop :=
 Br (decide (x ≥ 4294967296))
 (Br (decide (Int.fdiv x 4294967296 ≥ 65536))
 (Br (decide (Int.fdiv (Int.fdiv x 4294967296) 65536 ≥ 256))
 (0 ≤ IntKind.wrap IntKind.u8 (Int.fdiv (Int.fdiv (Int.fdiv x 4294967296) 65536) 256) ∧
 ∃ (c : UInt8),
 (ByteArray.mk (List.toArray (List.append (List.append [0, 1, 2, 2, 3, 3, 3, 3, 4, 4, 4, 4, 4, 4, 4, 4, 5, 5, 5, 5, 5, 5, 5, 5, 5, 5, 5, 5, 5, 5, 5, 5, 6, 6, 6, 6, 6, 6, 6, 6, 6, 6, 6, 6, 6, 6, 6, 6, 6, 6, 6, 6, 6, 6, 6, 6, 6, 6, 6, 6, 6, 6, 6, 6] [7, 7, 7, 7, 7, 7, 7, 7, 7, 7, 7, 7, 7, 7, 7, 7, 7, 7, 7, 7, 7, 7, 7, 7, 7, 7, 7, 7, 7, 7, 7, 7, 7, 7, 7, 7, 7, 7, 7, 7, 7, 7, 7, 7, 7, 7, 7, 7, 7, 7, 7, 7, 7, 7, 7, 7, 7, 7, 7, 7, 7, 7, 7, 7]) (List.append [8, 8, 8, 8, 8, 8, 8, 8, 8, 8, 8, 8, 8, 8, 8, 8, 8, 8, 8, 8, 8, 8, 8, 8, 8, 8, 8, 8, 8, 8, 8, 8, 8, 8, 8, 8, 8, 8, 8, 8, 8, 8, 8, 8, 8, 8, 8, 8, 8, 8, 8, 8, 8, 8, 8, 8, 8, 8, 8, 8, 8, 8, 8, 8] [8, 8, 8, 8, 8, 8, 8, 8, 8, 8, 8, 8, 8, 8, 8, 8, 8, 8, 8, 8, 8, 8, 8, 8, 8, 8, 8, 8, 8, 8, 8, 8, 8, 8, 8, 8, 8, 8, 8, 8, 8, 8, 8, 8, 8, 8, 8, 8, 8, 8, 8, 8, 8, 8, 8, 8, 8, 8, 8, 8, 8, 8, 8, 8]))))[Int.toNat (IntKind.wrap IntKind.u8 (Int.fdiv (Int.fdiv (Int.fdiv x 4294967296) 65536) 256))]? =
 some c ∧
 Ret h K (int IntKind.i64 (IntKind.wrap IntKind.i64 (56 + IntKind.wrap IntKind.i64 (↑(UInt8.toNat c) : Int)))))
 (0 ≤ IntKind.wrap IntKind.u8 (Int.fdiv (Int.fdiv x 4294967296) 65536) ∧
 ∃ (c : UInt8),
 (ByteArray.mk (List.toArray (List.append (List.append [0, 1, 2, 2, 3, 3, 3, 3, 4, 4, 4, 4, 4, 4, 4, 4, 5, 5, 5, 5, 5, 5, 5, 5, 5, 5, 5, 5, 5, 5, 5, 5, 6, 6, 6, 6, 6, 6, 6, 6, 6, 6, 6, 6, 6, 6, 6, 6, 6, 6, 6, 6, 6, 6, 6, 6, 6, 6, 6, 6, 6, 6, 6, 6] [7, 7, 7, 7, 7, 7, 7, 7, 7, 7, 7, 7, 7, 7, 7, 7, 7, 7, 7, 7, 7, 7, 7, 7, 7, 7, 7, 7, 7, 7, 7, 7, 7, 7, 7, 7, 7, 7, 7, 7, 7, 7, 7, 7, 7, 7, 7, 7, 7, 7, 7, 7, 7, 7, 7, 7, 7, 7, 7, 7, 7, 7, 7, 7]) (List.append [8, 8, 8, 8, 8, 8, 8, 8, 8, 8, 8, 8, 8, 8, 8, 8, 8, 8, 8, 8, 8, 8, 8, 8, 8, 8, 8, 8, 8, 8, 8, 8, 8, 8, 8, 8, 8, 8, 8, 8, 8, 8, 8, 8, 8, 8, 8, 8, 8, 8, 8, 8, 8, 8, 8, 8, 8, 8, 8, 8, 8, 8, 8, 8] [8, 8, 8, 8, 8, 8, 8, 8, 8, 8, 8, 8, 8, 8, 8, 8, 8, 8, 8, 8, 8, 8, 8, 8, 8, 8, 8, 8, 8, 8, 8, 8, 8, 8, 8, 8, 8, 8, 8, 8, 8, 8, 8, 8, 8, 8, 8, 8, 8, 8, 8, 8, 8, 8, 8, 8, 8, 8, 8, 8, 8, 8, 8, 8]))))[Int.toNat (IntKind.wrap IntKind.u8 (Int.fdiv (Int.fdiv x 4294967296) 65536))]? =
 some c ∧
 Ret h K (int IntKind.i64 (IntKind.wrap IntKind.i64 (48 + IntKind.wrap IntKind.i64 (↑(UInt8.toNat c) : Int))))))
 (Br (decide (Int.fdiv x 4294967296 ≥ 256))
 (0 ≤ IntKind.wrap IntKind.u8 (Int.fdiv (Int.fdiv x 4294967296) 256) ∧
 ∃ (c : UInt8),
 (ByteArray.mk (List.toArray (List.append (List.append [0, 1, 2, 2, 3, 3, 3, 3, 4, 4, 4, 4, 4, 4, 4, 4, 5, 5, 5, 5, 5, 5, 5, 5, 5, 5, 5, 5, 5, 5, 5, 5, 6, 6, 6, 6, 6, 6, 6, 6, 6, 6, 6, 6, 6, 6, 6, 6, 6, 6, 6, 6, 6, 6, 6, 6, 6, 6, 6, 6, 6, 6, 6, 6] [7, 7, 7, 7, 7, 7, 7, 7, 7, 7, 7, 7, 7, 7, 7, 7, 7, 7, 7, 7, 7, 7, 7, 7, 7, 7, 7, 7, 7, 7, 7, 7, 7, 7, 7, 7, 7, 7, 7, 7, 7, 7, 7, 7, 7, 7, 7, 7, 7, 7, 7, 7, 7, 7, 7, 7, 7, 7, 7, 7, 7, 7, 7, 7]) (List.append [8, 8, 8, 8, 8, 8, 8, 8, 8, 8, 8, 8, 8, 8, 8, 8, 8, 8, 8, 8, 8, 8, 8, 8, 8, 8, 8, 8, 8, 8, 8, 8, 8, 8, 8, 8, 8, 8, 8, 8, 8, 8, 8, 8, 8, 8, 8, 8, 8, 8, 8, 8, 8, 8, 8, 8, 8, 8, 8, 8, 8, 8, 8, 8] [8, 8, 8, 8, 8, 8, 8, 8, 8, 8, 8, 8, 8, 8, 8, 8, 8, 8, 8, 8, 8, 8, 8, 8, 8, 8, 8, 8, 8, 8, 8, 8, 8, 8, 8, 8, 8, 8, 8, 8, 8, 8, 8, 8, 8, 8, 8, 8, 8, 8, 8, 8, 8, 8, 8, 8, 8, 8, 8, 8, 8, 8, 8, 8]))))[Int.toNat (IntKind.wrap IntKind.u8 (Int.fdiv (Int.fdiv x 4294967296) 256))]? =
 some c ∧
 Ret h K (int IntKind.i64 (IntKind.wrap IntKind.i64 (40 + IntKind.wrap IntKind.i64 (↑(UInt8.toNat c) : Int)))))
 (0 ≤ IntKind.wrap IntKind.u8 (Int.fdiv x 4294967296) ∧
 ∃ (c : UInt8),
 (ByteArray.mk (List.toArray (List.append (List.append [0, 1, 2, 2, 3, 3, 3, 3, 4, 4, 4, 4, 4, 4, 4, 4, 5, 5, 5, 5, 5, 5, 5, 5, 5, 5, 5, 5, 5, 5, 5, 5, 6, 6, 6, 6, 6, 6, 6, 6, 6, 6, 6, 6, 6, 6, 6, 6, 6, 6, 6, 6, 6, 6, 6, 6, 6, 6, 6, 6, 6, 6, 6, 6] [7, 7, 7, 7, 7, 7, 7, 7, 7, 7, 7, 7, 7, 7, 7, 7, 7, 7, 7, 7, 7, 7, 7, 7, 7, 7, 7, 7, 7, 7, 7, 7, 7, 7, 7, 7, 7, 7, 7, 7, 7, 7, 7, 7, 7, 7, 7, 7, 7, 7, 7, 7, 7, 7, 7, 7, 7, 7, 7, 7, 7, 7, 7, 7]) (List.append [8, 8, 8, 8, 8, 8, 8, 8, 8, 8, 8, 8, 8, 8, 8, 8, 8, 8, 8, 8, 8, 8, 8, 8, 8, 8, 8, 8, 8, 8, 8, 8, 8, 8, 8, 8, 8, 8, 8, 8, 8, 8, 8, 8, 8, 8, 8, 8, 8, 8, 8, 8, 8, 8, 8, 8, 8, 8, 8, 8, 8, 8, 8, 8] [8, 8, 8, 8, 8, 8, 8, 8, 8, 8, 8, 8, 8, 8, 8, 8, 8, 8, 8, 8, 8, 8, 8, 8, 8, 8, 8, 8, 8, 8, 8, 8, 8, 8, 8, 8, 8, 8, 8, 8, 8, 8, 8, 8, 8, 8, 8, 8, 8, 8, 8, 8, 8, 8, 8, 8, 8, 8, 8, 8, 8, 8, 8, 8]))))[Int.toNat (IntKind.wrap IntKind.u8 (Int.fdiv x 4294967296))]? =
 some c ∧
 Ret h K (int IntKind.i64 (IntKind.wrap IntKind.i64 (32 + IntKind.wrap IntKind.i64 (↑(UInt8.toNat c) : Int)))))))
 (Br (decide (x ≥ 65536))
 (Br (decide (Int.fdiv x 65536 ≥ 256))
 (0 ≤ IntKind.wrap IntKind.u8 (Int.fdiv (Int.fdiv x 65536) 256) ∧
 ∃ (c : UInt8),
 (ByteArray.mk (List.toArray (List.append (List.append [0, 1, 2, 2, 3, 3, 3, 3, 4, 4, 4, 4, 4, 4, 4, 4, 5, 5, 5, 5, 5, 5, 5, 5, 5, 5, 5, 5, 5, 5, 5, 5, 6, 6, 6, 6, 6, 6, 6, 6, 6, 6, 6, 6, 6, 6, 6, 6, 6, 6, 6, 6, 6, 6, 6, 6, 6, 6, 6, 6, 6, 6, 6, 6] [7, 7, 7, 7, 7, 7, 7, 7, 7, 7, 7, 7, 7, 7, 7, 7, 7, 7, 7, 7, 7, 7, 7, 7, 7, 7, 7, 7, 7, 7, 7, 7, 7, 7, 7, 7, 7, 7, 7, 7, 7, 7, 7, 7, 7, 7, 7, 7, 7, 7, 7, 7, 7, 7, 7, 7, 7, 7, 7, 7, 7, 7, 7, 7]) (List.append [8, 8, 8, 8, 8, 8, 8, 8, 8, 8, 8, 8, 8, 8, 8, 8, 8, 8, 8, 8, 8, 8, 8, 8, 8, 8, 8, 8, 8, 8, 8, 8, 8, 8, 8, 8, 8, 8, 8, 8, 8, 8, 8, 8, 8, 8, 8, 8, 8, 8, 8, 8, 8, 8, 8, 8, 8, 8, 8, 8, 8, 8, 8, 8] [8, 8, 8, 8, 8, 8, 8, 8, 8, 8, 8, 8, 8, 8, 8, 8, 8, 8, 8, 8, 8, 8, 8, 8, 8, 8, 8, 8, 8, 8, 8, 8, 8, 8, 8, 8, 8, 8, 8, 8, 8, 8, 8, 8, 8, 8, 8, 8, 8, 8, 8, 8, 8, 8, 8, 8, 8, 8, 8, 8, 8, 8, 8, 8]))))[Int.toNat (IntKind.wrap IntKind.u8 (Int.fdiv (Int.fdiv x 65536) 256))]? =
 some c ∧
 Ret h K (int IntKind.i64 (IntKind.wrap IntKind.i64 (24 + IntKind.wrap IntKind.i64 (↑(UInt8.toNat c) : Int)))))
 (0 ≤ IntKind.wrap IntKind.u8 (Int.fdiv x 65536) ∧
 ∃ (c : UInt8),
 (ByteArray.mk (List.toArray (List.append (List.append [0, 1, 2, 2, 3, 3, 3, 3, 4, 4, 4, 4, 4, 4, 4, 4, 5, 5, 5, 5, 5, 5, 5, 5, 5, 5, 5, 5, 5, 5, 5, 5, 6, 6, 6, 6, 6, 6, 6, 6, 6, 6, 6, 6, 6, 6, 6, 6, 6, 6, 6, 6, 6, 6, 6, 6, 6, 6, 6, 6, 6, 6, 6, 6] [7, 7, 7, 7, 7, 7, 7, 7, 7, 7, 7, 7, 7, 7, 7, 7, 7, 7, 7, 7, 7, 7, 7, 7, 7, 7, 7, 7, 7, 7, 7, 7, 7, 7, 7, 7, 7, 7, 7, 7, 7, 7, 7, 7, 7, 7, 7, 7, 7, 7, 7, 7, 7, 7, 7, 7, 7, 7, 7, 7, 7, 7, 7, 7]) (List.append [8, 8, 8, 8, 8, 8, 8, 8, 8, 8, 8, 8, 8, 8, 8, 8, 8, 8, 8, 8, 8, 8, 8, 8, 8, 8, 8, 8, 8, 8, 8, 8, 8, 8, 8, 8, 8, 8, 8, 8, 8, 8, 8, 8, 8, 8, 8, 8, 8, 8, 8, 8, 8, 8, 8, 8, 8, 8, 8, 8, 8, 8, 8, 8] [8, 8, 8, 8, 8, 8, 8, 8, 8, 8, 8, 8, 8, 8, 8, 8, 8, 8, 8, 8, 8, 8, 8, 8, 8, 8, 8, 8, 8, 8, 8, 8, 8, 8, 8, 8, 8, 8, 8, 8, 8, 8, 8, 8, 8, 8, 8, 8, 8, 8, 8, 8, 8, 8, 8, 8, 8, 8, 8, 8, 8, 8, 8, 8]))))[Int.toNat (IntKind.wrap IntKind.u8 (Int.fdiv x 65536))]? =
 some c ∧
 Ret h K (int IntKind.i64 (IntKind.wrap IntKind.i64 (16 + IntKind.wrap IntKind.i64 (↑(UInt8.toNat c) : Int))))))
 (Br (decide (x ≥ 256))
 (0 ≤ IntKind.wrap IntKind.u8 (Int.fdiv x 256) ∧
 ∃ (c : UInt8),
 (ByteArray.mk (List.toArray (List.append (List.append [0, 1, 2, 2, 3, 3, 3, 3, 4, 4, 4, 4, 4, 4, 4, 4, 5, 5, 5, 5, 5, 5, 5, 5, 5, 5, 5, 5, 5, 5, 5, 5, 6, 6, 6, 6, 6, 6, 6, 6, 6, 6, 6, 6, 6, 6, 6, 6, 6, 6, 6, 6, 6, 6, 6, 6, 6, 6, 6, 6, 6, 6, 6, 6] [7, 7, 7, 7, 7, 7, 7, 7, 7, 7, 7, 7, 7, 7, 7, 7, 7, 7, 7, 7, 7, 7, 7, 7, 7, 7, 7, 7, 7, 7, 7, 7, 7, 7, 7, 7, 7, 7, 7, 7, 7, 7, 7, 7, 7, 7, 7, 7, 7, 7, 7, 7, 7, 7, 7, 7, 7, 7, 7, 7, 7, 7, 7, 7]) (List.append [8, 8, 8, 8, 8, 8, 8, 8, 8, 8, 8, 8, 8, 8, 8, 8, 8, 8, 8, 8, 8, 8, 8, 8, 8, 8, 8, 8, 8, 8, 8, 8, 8, 8, 8, 8, 8, 8, 8, 8, 8, 8, 8, 8, 8, 8, 8, 8, 8, 8, 8, 8, 8, 8, 8, 8, 8, 8, 8, 8, 8, 8, 8, 8] [8, 8, 8, 8, 8, 8, 8, 8, 8, 8, 8, 8, 8, 8, 8, 8, 8, 8, 8, 8, 8, 8, 8, 8, 8, 8, 8, 8, 8, 8, 8, 8, 8, 8, 8, 8, 8, 8, 8, 8, 8, 8, 8, 8, 8, 8, 8, 8, 8, 8, 8, 8, 8, 8, 8, 8, 8, 8, 8, 8, 8, 8, 8, 8]))))[Int.toNat (IntKind.wrap IntKind.u8 (Int.fdiv x 256))]? =
 some c ∧
 Ret h K (int IntKind.i64 (IntKind.wrap IntKind.i64 (8 + IntKind.wrap IntKind.i64 (↑(UInt8.toNat c) : Int)))))
 (0 ≤ IntKind.wrap IntKind.u8 x ∧
 ∃ (c : UInt8),
 (ByteArray.mk (List.toArray (List.append (List.append [0, 1, 2, 2, 3, 3, 3, 3, 4, 4, 4, 4, 4, 4, 4, 4, 5, 5, 5, 5, 5, 5, 5, 5, 5, 5, 5, 5, 5, 5, 5, 5, 6, 6, 6, 6, 6, 6, 6, 6, 6, 6, 6, 6, 6, 6, 6, 6, 6, 6, 6, 6, 6, 6, 6, 6, 6, 6, 6, 6, 6, 6, 6, 6] [7, 7, 7, 7, 7, 7, 7, 7, 7, 7, 7, 7, 7, 7, 7, 7, 7, 7, 7, 7, 7, 7, 7, 7, 7, 7, 7, 7, 7, 7, 7, 7, 7, 7, 7, 7, 7, 7, 7, 7, 7, 7, 7, 7, 7, 7, 7, 7, 7, 7, 7, 7, 7, 7, 7, 7, 7, 7, 7, 7, 7, 7, 7, 7]) (List.append [8, 8, 8, 8, 8, 8, 8, 8, 8, 8, 8, 8, 8, 8, 8, 8, 8, 8, 8, 8, 8, 8, 8, 8, 8, 8, 8, 8, 8, 8, 8, 8, 8, 8, 8, 8, 8, 8, 8, 8, 8, 8, 8, 8, 8, 8, 8, 8, 8, 8, 8, 8, 8, 8, 8, 8, 8, 8, 8, 8, 8, 8, 8, 8] [8, 8, 8, 8, 8, 8, 8, 8, 8, 8, 8, 8, 8, 8, 8, 8, 8, 8, 8, 8, 8, 8, 8, 8, 8, 8, 8, 8, 8, 8, 8, 8, 8, 8, 8, 8, 8, 8, 8, 8, 8, 8, 8, 8, 8, 8, 8, 8, 8, 8, 8, 8, 8, 8, 8, 8, 8, 8, 8, 8, 8, 8, 8, 8]))))[Int.toNat (IntKind.wrap IntKind.u8 x)]? =
 some c ∧
 Ret h K (int IntKind.i64 (IntKind.wrap IntKind.i64 (0 + IntKind.wrap IntKind.i64 (↑(UInt8.toNat c) : Int)))))))
theorem F_math_bits_Len64 (x : Int) (h : Heap) (K : Value → Heap → Prop) (k : F_math_bits_Len64T x h K) : CallA Try.prog fn_math_bits_Len64 [int IntKind.u64 x] h K :=
 CallA.of_ev (cs := []) Try.func146 (by kernel_rfl) (fun _ _ => Try.call146 _ _) mixed (by kernel_rfl) (by kernel_rfl) k
end Go.Proofs.Ytghdadniddoboaa
