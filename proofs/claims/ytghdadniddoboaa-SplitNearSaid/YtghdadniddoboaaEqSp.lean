import Derived.Test.YtghdadniddoboaaEqN
namespace Go.Proofs.Ytghdadniddoboaa
open Go Go.Sy Go.Value
set_option linter.unusedVariables false
set_option maxRecDepth 100000
def L_split_Shares_0 (total : Int) (sum : Int) (b : Nat) (shares : Option Addr) (sharesn : Nat) (sharesc : Nat) (who : Option Addr) (whon : Nat) (whoc : Nat) (missing : Int) (t43 : Option Addr) (t43n : Nat) (t43c : Nat) (t44 : Int) (t45 : Int) (h : Heap) (K : Value → Heap → Prop) : Prop :=
 LoopAt Try.prog Try.f14 14 (loopK Try.f14 0) (sp 99 [(0, int IntKind.i64 total), (6, int IntKind.i64 sum), (8, pointer (some { block := b, off := 0 })), (9, slice shares sharesn sharesc), (10, slice who whon whoc), (11, int IntKind.i64 missing), (43, slice t43 t43n t43c),
 (44, int IntKind.i64 t44), (45, int IntKind.i64 t45)]) h K
def L_split_Shares_1 (shares : Option Addr) (sharesn : Nat) (sharesc : Nat) (t85 : Option Addr) (t85n : Nat) (t85c : Nat) (t86 : Int) (t87 : Int) (h : Heap) (K : Value → Heap → Prop) : Prop :=
 LoopAt Try.prog Try.f14 14 (loopK Try.f14 1) (sp 99 [(9, slice shares sharesn sharesc), (85, slice t85 t85n t85c), (86, int IntKind.i64 t86), (87, int IntKind.i64 t87)]) h K
def L_split_Shares_0T (total : Int) (sum : Int) (b : Nat) (shares : Option Addr) (sharesn : Nat) (sharesc : Nat) (who : Option Addr) (whon : Nat) (whoc : Nat) (missing : Int) (t43 : Option Addr) (t43n : Nat) (t43c : Nat) (t44 : Int) (t45 : Int) (h : Heap) (K : Value → Heap → Prop) : Prop :=
 Br (decide (t45 < t44))
 (0 ≤ t45 ∧
 t45 < (↑t43n : Int) ∧
 withAddr t43 fun (b_1 o : Nat) =>
 ∃ (n : Int),
 Heap.cell h b_1 (o + Int.toNat t45) = some (int IntKind.i64 n) ∧
 CallA Try.prog fn_money_MulDiv [int IntKind.i64 total, int IntKind.i64 n, int IntKind.i64 sum, Value.bool false] h fun (v : Value) (h : Heap) =>
 ∃ (n_1 : Int),
 ∃ (n_2 : Int),
 v = tuple #[int IntKind.i64 n_1, int IntKind.i64 n_2] ∧
 newB h [int IntKind.i64 n_1] 2 fun (r : Nat) (h : Heap) =>
 AppA [int IntKind.i64 0] 2 h shares sharesn sharesc 1 (some { block := r, off := 0 }) fun (ap : Option Addr) (cp : Nat) (h : Heap) =>
 ∃ (a : Option Addr),
 ∃ (n_3 : Nat),
 ∃ (m : Nat),
 Heap.cell h b 0 = some (slice a n_3 m) ∧
 CallA Try.prog fn_split_rest [int IntKind.i64 total, int IntKind.i64 n, int IntKind.i64 n_1, int IntKind.i64 sum] h fun (v : Value) (h_1 : Heap) =>
 ∃ (n : Int),
 v = int IntKind.i64 n ∧
 (Heap.le h h_1 ∨ Keeps [b] h h_1) ∧
 newB h_1 [int IntKind.i64 n] 2 fun (r : Nat) (h : Heap) =>
 AppA [int IntKind.i64 0] 2 h a n_3 m 1 (some { block := r, off := 0 }) fun (ap_1 : Option Addr) (cp_1 : Nat) (h : Heap) =>
 Heap.canSt h b 0 1 ∧
 newB (Heap.setN h b 0 [slice ap_1 (n_3 + 1) cp_1]) [int IntKind.i64 t45] 3 fun (r : Nat) (h : Heap) =>
 AppA [int IntKind.i64 0] 3 h who whon whoc 1 (some { block := r, off := 0 }) fun (ap_2 : Option Addr) (cp_2 : Nat) (h : Heap) =>
 L_split_Shares_0 total sum b ap (sharesn + 1) cp ap_2 (whon + 1) cp_2 (IntKind.wrap IntKind.i64 (missing - n_1)) t43 t43n t43c t44 (IntKind.wrap IntKind.i64 (t45 + 1)) h K)
 (∃ (a : Option Addr),
 ∃ (n : Nat),
 ∃ (m : Nat),
 Heap.cell h b 0 = some (slice a n m) ∧
 CallA Try.prog fn_slices_SortFunc_int_int [slice who whon whoc, func (Fn.func fn_split_by_order) #[agg #[slice a n m]] #[]] h fun (v : Value) (h : Heap) =>
 v = tuple #[] ∧ 0 ≤ missing ∧ missing ≤ (↑whoc : Int) ∧ L_split_Shares_1 shares sharesn sharesc who (Int.toNat missing) whoc (↑(Int.toNat missing) : Int) 0 h K)
theorem L_split_Shares_0r (total : Int) (sum : Int) (b : Nat) (shares : Option Addr) (sharesn : Nat) (sharesc : Nat) (who : Option Addr) (whon : Nat) (whoc : Nat) (missing : Int) (t43 : Option Addr) (t43n : Nat) (t43c : Nat) (t44 : Int) (t45 : Int) (h : Heap) (K : Value → Heap → Prop) (k : L_split_Shares_0T total sum b shares sharesn sharesc who whon whoc missing t43 t43n t43c t44 t45 h K) : L_split_Shares_0 total sum b shares sharesn sharesc who whon whoc missing t43 t43n t43c t44 t45 h K :=
 LoopAt.of_ev (cs := []) Try.func14 mixed (fun junk => by kernel_rfl) k
def L_split_Shares_1T (shares : Option Addr) (sharesn : Nat) (sharesc : Nat) (t85 : Option Addr) (t85n : Nat) (t85c : Nat) (t86 : Int) (t87 : Int) (h : Heap) (K : Value → Heap → Prop) : Prop :=
 Br (decide (t87 < t86))
 (0 ≤ t87 ∧
 t87 < (↑t85n : Int) ∧
 withAddr t85 fun (b o : Nat) =>
 ∃ (n : Int),
 Heap.cell h b (o + Int.toNat t87) = some (int IntKind.i64 n) ∧
 0 ≤ n ∧
 n < (↑sharesn : Int) ∧
 withAddr shares fun (b o : Nat) =>
 ∃ (n_1 : Int),
 Heap.cell h b (o + Int.toNat n) = some (int IntKind.i64 n_1) ∧
 0 ≤ n ∧
 n < (↑sharesn : Int) ∧
 withAddr shares fun (b o : Nat) =>
 Heap.canSt h b (o + Int.toNat n) 1 ∧
 L_split_Shares_1 shares sharesn sharesc t85 t85n t85c t86 (IntKind.wrap IntKind.i64 (t87 + 1)) (Heap.setN h b (o + Int.toNat n) [int IntKind.i64 (IntKind.wrap IntKind.i64 (n_1 + 1))]) K)
 (Ret h K (tuple #[slice shares sharesn sharesc, int IntKind.i64 0]))
theorem L_split_Shares_1r (shares : Option Addr) (sharesn : Nat) (sharesc : Nat) (t85 : Option Addr) (t85n : Nat) (t85c : Nat) (t86 : Int) (t87 : Int) (h : Heap) (K : Value → Heap → Prop) (k : L_split_Shares_1T shares sharesn sharesc t85 t85n t85c t86 t87 h K) : L_split_Shares_1 shares sharesn sharesc t85 t85n t85c t86 t87 h K :=
 LoopAt.of_ev (cs := []) Try.func14 mixed (fun junk => by kernel_rfl) k
def F_split_SharesT (total : Int) (weights : Option Addr) (weightsn : Nat) (weightsc : Nat) (h : Heap) (K : Value → Heap → Prop) : Prop :=
 Br (decide ((↑weightsn : Int) > 64)) (Ret h K (tuple #[slice none 0 0, int IntKind.i64 4]))
 (Br (decide (total < 0)) (Ret h K (tuple #[slice none 0 0, int IntKind.i64 1]))
 (CallA Try.prog fn_slices_ContainsFunc_int64_int64 [slice weights weightsn weightsc, func (Fn.func fn_split_below) #[] #[]] h fun (v : Value) (h : Heap) =>
 ∃ (b : Bool),
 v = Value.bool b ∧
 Br b (Ret h K (tuple #[slice none 0 0, int IntKind.i64 1]))
 (CallA Try.prog fn_slices_ContainsFunc_int64_int64 [slice weights weightsn weightsc, func (Fn.func fn_split_Shares_1) #[] #[]] h fun (v : Value) (h : Heap) =>
 ∃ (b : Bool),
 v = Value.bool b ∧
 Br (!b) (Ret h K (tuple #[slice none 0 0, int IntKind.i64 1]))
 (CallA Try.prog fn_money_Sum [slice weights weightsn weightsc] h fun (v : Value) (h : Heap) =>
 ∃ (n : Int),
 ∃ (n_1 : Int),
 v = tuple #[int IntKind.i64 n, int IntKind.i64 n_1] ∧
 Br (n_1 != 0) (Ret h K (tuple #[slice none 0 0, int IntKind.i64 n_1]))
 (newB h [slice none 0 0] 96 fun (r : Nat) (h : Heap) => L_split_Shares_0 total n r none 0 0 none 0 0 total weights weightsn weightsc (↑weightsn : Int) 0 h K)))))
theorem F_split_Shares (total : Int) (weights : Option Addr) (weightsn : Nat) (weightsc : Nat) (h : Heap) (K : Value → Heap → Prop) (k : F_split_SharesT total weights weightsn weightsc h K) : CallA Try.prog fn_split_Shares [int IntKind.i64 total, slice weights weightsn weightsc] h K :=
 CallA.of_ev (cs := []) Try.func14 (by kernel_rfl) (fun _ _ => Try.call14 _ _) mixed (by kernel_rfl) (by kernel_rfl) k
def F_split_EvenT (total : Int) (parts : Int) (h : Heap) (K : Value → Heap → Prop) : Prop :=
 Br (decide (parts > 64)) (Ret h K (tuple #[slice none 0 0, int IntKind.i64 4]))
 (Br (decide (total < 0)) (Ret h K (tuple #[slice none 0 0, int IntKind.i64 1]))
 (Br (decide (parts < 1)) (Ret h K (tuple #[slice none 0 0, int IntKind.i64 1]))
 (newB h [int IntKind.i64 1] 2 fun (r : Nat) (h : Heap) =>
 CallA Try.prog fn_slices_Repeat_int64_int64 [slice (some { block := r, off := 0 }) 1 1, int IntKind.i64 parts] h fun (v : Value) (h : Heap) =>
 ∃ (a : Option Addr),
 ∃ (n : Nat),
 ∃ (m : Nat),
 v = slice a n m ∧
 CallA Try.prog fn_split_Shares [int IntKind.i64 total, slice a n m] h fun (v : Value) (h : Heap) =>
 ∃ (a : Option Addr), ∃ (n : Nat), ∃ (m : Nat), ∃ (n_1 : Int), v = tuple #[slice a n m, int IntKind.i64 n_1] ∧ Ret h K (tuple #[slice a n m, int IntKind.i64 n_1]))))
theorem F_split_Even (total : Int) (parts : Int) (h : Heap) (K : Value → Heap → Prop) (k : F_split_EvenT total parts h K) : CallA Try.prog fn_split_Even [int IntKind.i64 total, int IntKind.i64 parts] h K :=
 CallA.of_ev (cs := []) Try.func16 (by kernel_rfl) (fun _ _ => Try.call16 _ _) mixed (by kernel_rfl) (by kernel_rfl) k
def L_slices_Repeat_int64_int64_0 (newslice : Option Addr) (newslicen : Nat) (newslicec : Nat) (n : Int) (h : Heap) (K : Value → Heap → Prop) : Prop :=
 LoopAt Try.prog Try.f67 67 (loopK Try.f67 0) (sp 48 [(7, slice newslice newslicen newslicec), (8, int IntKind.i64 n)]) h K
def L_slices_Repeat_int64_int64_0T (newslice : Option Addr) (newslicen : Nat) (newslicec : Nat) (n : Int) (h : Heap) (K : Value → Heap → Prop) : Prop :=
 Br (decide (n < (↑newslicen : Int)))
 (0 ≤ n ∧
 n ≤ (↑newslicen : Int) ∧
 0 ≤ n ∧
 n ≤ (↑newslicec : Int) ∧
 CopyA 1 h (slAddr newslice (Int.toNat n) newslicec 1) newslice (min (Int.toNat n) (newslicen - Int.toNat n)) fun (h : Heap) =>
 L_slices_Repeat_int64_int64_0 newslice newslicen newslicec (IntKind.wrap IntKind.i64 (n + (↑(min (Int.toNat n) (newslicen - Int.toNat n)) : Int))) h K)
 (Ret h K (slice newslice newslicen newslicec))
theorem L_slices_Repeat_int64_int64_0r (newslice : Option Addr) (newslicen : Nat) (newslicec : Nat) (n : Int) (h : Heap) (K : Value → Heap → Prop) (k : L_slices_Repeat_int64_int64_0T newslice newslicen newslicec n h K) : L_slices_Repeat_int64_int64_0 newslice newslicen newslicec n h K :=
 LoopAt.of_ev (cs := []) Try.func67 mixed (fun junk => by kernel_rfl) k
def F_slices_Repeat_int64_int64T (x : Option Addr) (xn : Nat) (xc : Nat) (count : Int) (h : Heap) (K : Value → Heap → Prop) : Prop :=
 Br (decide (count < 0)) False
 (CallA Try.prog fn_math_bits_Mul [int IntKind.u64 (IntKind.wrap IntKind.u64 (↑xn : Int)), int IntKind.u64 (IntKind.wrap IntKind.u64 count)] h fun (v : Value) (h : Heap) =>
 ∃ (n : Int),
 ∃ (n_1 : Int),
 v = tuple #[int IntKind.u64 n, int IntKind.u64 n_1] ∧
 Br (decide (n > 0)) False
 (Br (decide (n_1 > 9223372036854775807)) False
 (0 ≤ IntKind.wrap IntKind.i64 n_1 ∧
 IntKind.wrap IntKind.i64 n_1 ≤ IntKind.wrap IntKind.i64 n_1 ∧
 IntKind.wrap IntKind.i64 n_1 ≤ 281474976710656 ∧
 8 * IntKind.wrap IntKind.i64 n_1 ≤ 281474976710656 ∧
 newB h (repL (Int.toNat (IntKind.wrap IntKind.i64 n_1)) [int IntKind.i64 0]) 2 fun (r : Nat) (h : Heap) =>
 CopyA 1 h (some { block := r, off := 0 }) x (min xn (Int.toNat (IntKind.wrap IntKind.i64 n_1))) fun (h : Heap) =>
 L_slices_Repeat_int64_int64_0 (some { block := r, off := 0 }) (Int.toNat (IntKind.wrap IntKind.i64 n_1)) (Int.toNat (IntKind.wrap IntKind.i64 n_1)) (↑(min xn (Int.toNat (IntKind.wrap IntKind.i64 n_1))) : Int) h K)))
theorem F_slices_Repeat_int64_int64 (x : Option Addr) (xn : Nat) (xc : Nat) (count : Int) (h : Heap) (K : Value → Heap → Prop) (k : F_slices_Repeat_int64_int64T x xn xc count h K) : CallA Try.prog fn_slices_Repeat_int64_int64 [slice x xn xc, int IntKind.i64 count] h K :=
 CallA.of_ev (cs := []) Try.func67 (by kernel_rfl) (fun _ _ => Try.call67 _ _) mixed (by kernel_rfl) (by kernel_rfl) k
def F_split_restT (total : Int) (weight : Int) (share : Int) (sum : Int) (h : Heap) (K : Value → Heap → Prop) : Prop :=
 Ret h K
 (int IntKind.i64
 (IntKind.wrap IntKind.i64
 (IntKind.wrap IntKind.u64 (IntKind.wrap IntKind.u64 (IntKind.wrap IntKind.u64 total * IntKind.wrap IntKind.u64 weight) - IntKind.wrap IntKind.u64 (IntKind.wrap IntKind.u64 share * IntKind.wrap IntKind.u64 sum)))))
theorem F_split_rest (total : Int) (weight : Int) (share : Int) (sum : Int) (h : Heap) (K : Value → Heap → Prop) (k : F_split_restT total weight share sum h K) : CallA Try.prog fn_split_rest [int IntKind.i64 total, int IntKind.i64 weight, int IntKind.i64 share, int IntKind.i64 sum] h K :=
 CallA.of_ev (cs := []) Try.func56 (by kernel_rfl) (fun _ _ => Try.call56 _ _) mixed (by kernel_rfl) (by kernel_rfl) k
def F_split_Shares_1T (w : Int) (h : Heap) (K : Value → Heap → Prop) : Prop :=
 Ret h K (Value.bool (decide (w > 0)))
theorem F_split_Shares_1 (w : Int) (h : Heap) (K : Value → Heap → Prop) (k : F_split_Shares_1T w h K) : CallA Try.prog fn_split_Shares_1 [int IntKind.i64 w] h K :=
 CallA.of_ev (cs := []) Try.func55 (by kernel_rfl) (fun _ _ => Try.call55 _ _) mixed (by kernel_rfl) (by kernel_rfl) k
def F_split_belowT (n : Int) (h : Heap) (K : Value → Heap → Prop) : Prop :=
 Ret h K (Value.bool (decide (n < 0)))
theorem F_split_below (n : Int) (h : Heap) (K : Value → Heap → Prop) (k : F_split_belowT n h K) : CallA Try.prog fn_split_below [int IntKind.i64 n] h K :=
 CallA.of_ev (cs := []) Try.func54 (by kernel_rfl) (fun _ _ => Try.call54 _ _) mixed (by kernel_rfl) (by kernel_rfl) k
def F_math_bits_MulT (x : Int) (y : Int) (h : Heap) (K : Value → Heap → Prop) : Prop :=
 CallA Try.prog fn_math_bits_Mul64 [int IntKind.u64 x, int IntKind.u64 y] h fun (v : Value) (h : Heap) =>
 ∃ (n : Int), ∃ (n_1 : Int), v = tuple #[int IntKind.u64 n, int IntKind.u64 n_1] ∧ Ret h K (tuple #[int IntKind.u64 n, int IntKind.u64 n_1])
theorem F_math_bits_Mul (x : Int) (y : Int) (h : Heap) (K : Value → Heap → Prop) (k : F_math_bits_MulT x y h K) : CallA Try.prog fn_math_bits_Mul [int IntKind.u64 x, int IntKind.u64 y] h K :=
 CallA.of_ev (cs := []) Try.func112 (by kernel_rfl) (fun _ _ => Try.call112 _ _) mixed (by kernel_rfl) (by kernel_rfl) k
def F_math_bits_Mul64T (x : Int) (y : Int) (h : Heap) (K : Value → Heap → Prop) : Prop :=
 Ret h K
 (tuple
 #[int IntKind.u64
 (IntKind.wrap IntKind.u64
 (IntKind.wrap IntKind.u64
 (IntKind.wrap IntKind.u64 (Int.fdiv x 4294967296 * Int.fdiv y 4294967296) +
 Int.fdiv
 (IntKind.wrap IntKind.u64
 (IntKind.wrap IntKind.u64 (Int.fdiv x 4294967296 * IntKind.wrap IntKind.u64 (↑(BitVec.toNat (BitVec.ofInt 64 y &&& BitVec.ofInt 64 4294967295)) : Int)) +
 Int.fdiv
 (IntKind.wrap IntKind.u64
 (IntKind.wrap IntKind.u64 (↑(BitVec.toNat (BitVec.ofInt 64 x &&& BitVec.ofInt 64 4294967295)) : Int) *
 IntKind.wrap IntKind.u64 (↑(BitVec.toNat (BitVec.ofInt 64 y &&& BitVec.ofInt 64 4294967295)) : Int)))
 4294967296))
 4294967296) +
 Int.fdiv
 (IntKind.wrap IntKind.u64
 (IntKind.wrap IntKind.u64
 (↑(BitVec.toNat
 (BitVec.ofInt 64
 (IntKind.wrap IntKind.u64
 (IntKind.wrap IntKind.u64 (Int.fdiv x 4294967296 * IntKind.wrap IntKind.u64 (↑(BitVec.toNat (BitVec.ofInt 64 y &&& BitVec.ofInt 64 4294967295)) : Int)) +
 Int.fdiv
 (IntKind.wrap IntKind.u64
 (IntKind.wrap IntKind.u64 (↑(BitVec.toNat (BitVec.ofInt 64 x &&& BitVec.ofInt 64 4294967295)) : Int) *
 IntKind.wrap IntKind.u64 (↑(BitVec.toNat (BitVec.ofInt 64 y &&& BitVec.ofInt 64 4294967295)) : Int)))
 4294967296)) &&&
 BitVec.ofInt 64 4294967295)) :
 Int) +
 IntKind.wrap IntKind.u64 (IntKind.wrap IntKind.u64 (↑(BitVec.toNat (BitVec.ofInt 64 x &&& BitVec.ofInt 64 4294967295)) : Int) * Int.fdiv y 4294967296)))
 4294967296)),
 int IntKind.u64 (IntKind.wrap IntKind.u64 (x * y))])
theorem F_math_bits_Mul64 (x : Int) (y : Int) (h : Heap) (K : Value → Heap → Prop) (k : F_math_bits_Mul64T x y h K) : CallA Try.prog fn_math_bits_Mul64 [int IntKind.u64 x, int IntKind.u64 y] h K :=
 CallA.of_ev (cs := []) Try.func150 (by kernel_rfl) (fun _ _ => Try.call150 _ _) mixed (by kernel_rfl) (by kernel_rfl) k
def F_slices_ContainsFunc_int64_int64_dT (s : Option Addr) (sn : Nat) (sc : Nat) (h : Heap) (K : Value → Heap → Prop) : Prop :=
 CallA Try.prog fn_slices_IndexFunc_int64_int64 [slice s sn sc, func (Fn.func fn_split_below) #[] #[]] h fun (v : Value) (h : Heap) => ∃ (n : Int), v = int IntKind.i64 n ∧ Ret h K (Value.bool (decide (n ≥ 0)))
theorem F_slices_ContainsFunc_int64_int64_d (s : Option Addr) (sn : Nat) (sc : Nat) (h : Heap) (K : Value → Heap → Prop) (k : F_slices_ContainsFunc_int64_int64_dT s sn sc h K) : CallA Try.prog fn_slices_ContainsFunc_int64_int64 [slice s sn sc, func (Fn.func fn_split_below) #[] #[]] h K :=
 CallA.of_ev (cs := []) Try.func53 (by kernel_rfl) (fun _ _ => Try.call53 _ _) mixed (by kernel_rfl) (by kernel_rfl) k
def L_slices_IndexFunc_int64_int64_d_0 (s : Option Addr) (sn : Nat) (sc : Nat) (t7 : Int) (t8 : Int) (h : Heap) (K : Value → Heap → Prop) : Prop :=
 LoopAt Try.prog Try.f103 103 (loopK Try.f103 0) (sp 19 [(0, slice s sn sc), (1, func (Fn.func fn_split_below) #[] #[]), (7, int IntKind.i64 t7), (8, int IntKind.i64 t8)]) h K
def L_slices_IndexFunc_int64_int64_d_0T (s : Option Addr) (sn : Nat) (sc : Nat) (t7 : Int) (t8 : Int) (h : Heap) (K : Value → Heap → Prop) : Prop :=
 Br (decide (t8 < t7))
 (0 ≤ t8 ∧
 t8 < (↑sn : Int) ∧
 withAddr s fun (b o : Nat) =>
 ∃ (n : Int),
 Heap.cell h b (o + Int.toNat t8) = some (int IntKind.i64 n) ∧
 CallA Try.prog fn_split_below [int IntKind.i64 n] h fun (v : Value) (h : Heap) => ∃ (b : Bool), v = Value.bool b ∧ Br b (Ret h K (int IntKind.i64 t8)) (L_slices_IndexFunc_int64_int64_d_0 s sn sc t7 (IntKind.wrap IntKind.i64 (t8 + 1)) h K))
 (Ret h K (int IntKind.i64 (-1)))
theorem L_slices_IndexFunc_int64_int64_d_0r (s : Option Addr) (sn : Nat) (sc : Nat) (t7 : Int) (t8 : Int) (h : Heap) (K : Value → Heap → Prop) (k : L_slices_IndexFunc_int64_int64_d_0T s sn sc t7 t8 h K) : L_slices_IndexFunc_int64_int64_d_0 s sn sc t7 t8 h K :=
 LoopAt.of_ev (cs := []) Try.func103 mixed (fun junk => by kernel_rfl) k
def F_slices_IndexFunc_int64_int64_dT (s : Option Addr) (sn : Nat) (sc : Nat) (h : Heap) (K : Value → Heap → Prop) : Prop :=
 L_slices_IndexFunc_int64_int64_d_0 s sn sc (↑sn : Int) 0 h K
theorem F_slices_IndexFunc_int64_int64_d (s : Option Addr) (sn : Nat) (sc : Nat) (h : Heap) (K : Value → Heap → Prop) (k : F_slices_IndexFunc_int64_int64_dT s sn sc h K) : CallA Try.prog fn_slices_IndexFunc_int64_int64 [slice s sn sc, func (Fn.func fn_split_below) #[] #[]] h K :=
 CallA.of_ev (cs := []) Try.func103 (by kernel_rfl) (fun _ _ => Try.call103 _ _) mixed (by kernel_rfl) (by kernel_rfl) k
def F_slices_ContainsFunc_int64_int64_eT (s : Option Addr) (sn : Nat) (sc : Nat) (h : Heap) (K : Value → Heap → Prop) : Prop :=
 CallA Try.prog fn_slices_IndexFunc_int64_int64 [slice s sn sc, func (Fn.func fn_split_Shares_1) #[] #[]] h fun (v : Value) (h : Heap) => ∃ (n : Int), v = int IntKind.i64 n ∧ Ret h K (Value.bool (decide (n ≥ 0)))
theorem F_slices_ContainsFunc_int64_int64_e (s : Option Addr) (sn : Nat) (sc : Nat) (h : Heap) (K : Value → Heap → Prop) (k : F_slices_ContainsFunc_int64_int64_eT s sn sc h K) : CallA Try.prog fn_slices_ContainsFunc_int64_int64 [slice s sn sc, func (Fn.func fn_split_Shares_1) #[] #[]] h K :=
 CallA.of_ev (cs := []) Try.func53 (by kernel_rfl) (fun _ _ => Try.call53 _ _) mixed (by kernel_rfl) (by kernel_rfl) k
def L_slices_IndexFunc_int64_int64_e_0 (s : Option Addr) (sn : Nat) (sc : Nat) (t7 : Int) (t8 : Int) (h : Heap) (K : Value → Heap → Prop) : Prop :=
 LoopAt Try.prog Try.f103 103 (loopK Try.f103 0) (sp 19 [(0, slice s sn sc), (1, func (Fn.func fn_split_Shares_1) #[] #[]), (7, int IntKind.i64 t7), (8, int IntKind.i64 t8)]) h K
def L_slices_IndexFunc_int64_int64_e_0T (s : Option Addr) (sn : Nat) (sc : Nat) (t7 : Int) (t8 : Int) (h : Heap) (K : Value → Heap → Prop) : Prop :=
 Br (decide (t8 < t7))
 (0 ≤ t8 ∧
 t8 < (↑sn : Int) ∧
 withAddr s fun (b o : Nat) =>
 ∃ (n : Int),
 Heap.cell h b (o + Int.toNat t8) = some (int IntKind.i64 n) ∧
 CallA Try.prog fn_split_Shares_1 [int IntKind.i64 n] h fun (v : Value) (h : Heap) => ∃ (b : Bool), v = Value.bool b ∧ Br b (Ret h K (int IntKind.i64 t8)) (L_slices_IndexFunc_int64_int64_e_0 s sn sc t7 (IntKind.wrap IntKind.i64 (t8 + 1)) h K))
 (Ret h K (int IntKind.i64 (-1)))
theorem L_slices_IndexFunc_int64_int64_e_0r (s : Option Addr) (sn : Nat) (sc : Nat) (t7 : Int) (t8 : Int) (h : Heap) (K : Value → Heap → Prop) (k : L_slices_IndexFunc_int64_int64_e_0T s sn sc t7 t8 h K) : L_slices_IndexFunc_int64_int64_e_0 s sn sc t7 t8 h K :=
 LoopAt.of_ev (cs := []) Try.func103 mixed (fun junk => by kernel_rfl) k
def F_slices_IndexFunc_int64_int64_eT (s : Option Addr) (sn : Nat) (sc : Nat) (h : Heap) (K : Value → Heap → Prop) : Prop :=
 L_slices_IndexFunc_int64_int64_e_0 s sn sc (↑sn : Int) 0 h K
theorem F_slices_IndexFunc_int64_int64_e (s : Option Addr) (sn : Nat) (sc : Nat) (h : Heap) (K : Value → Heap → Prop) (k : F_slices_IndexFunc_int64_int64_eT s sn sc h K) : CallA Try.prog fn_slices_IndexFunc_int64_int64 [slice s sn sc, func (Fn.func fn_split_Shares_1) #[] #[]] h K :=
 CallA.of_ev (cs := []) Try.func103 (by kernel_rfl) (fun _ _ => Try.call103 _ _) mixed (by kernel_rfl) (by kernel_rfl) k
def L_split_Fill_0 (total : Int) (out : Option Addr) (outn : Nat) (outc : Nat) (t22 : Option Addr) (t22n : Nat) (t22c : Nat) (t23 : Int) (t24 : Int) (h : Heap) (K : Value → Heap → Prop) : Prop :=
 LoopAt Try.prog Try.f18 18 (loopK Try.f18 0) (sp 41 [(0, int IntKind.i64 total), (7, slice out outn outc), (22, slice t22 t22n t22c), (23, int IntKind.i64 t23), (24, int IntKind.i64 t24)]) h K
def L_split_Fill_0T (total : Int) (out : Option Addr) (outn : Nat) (outc : Nat) (t22 : Option Addr) (t22n : Nat) (t22c : Nat) (t23 : Int) (t24 : Int) (h : Heap) (K : Value → Heap → Prop) : Prop :=
 Br (decide (t24 < t23))
 (0 ≤ t24 ∧
 t24 < (↑t22n : Int) ∧
 withAddr t22 fun (b o : Nat) =>
 ∃ (n : Int),
 Heap.cell h b (o + Int.toNat t24) = some (int IntKind.i64 n) ∧
 newB h [int IntKind.i64 (if total < n then total else n)] 2 fun (r : Nat) (h : Heap) =>
 AppA [int IntKind.i64 0] 2 h out outn outc 1 (some { block := r, off := 0 }) fun (ap : Option Addr) (cp : Nat) (h : Heap) =>
 L_split_Fill_0 (IntKind.wrap IntKind.i64 (total - if total < n then total else n)) ap (outn + 1) cp t22 t22n t22c t23 (IntKind.wrap IntKind.i64 (t24 + 1)) h K)
 (Ret h K (tuple #[slice out outn outc, int IntKind.i64 total, int IntKind.i64 0]))
theorem L_split_Fill_0r (total : Int) (out : Option Addr) (outn : Nat) (outc : Nat) (t22 : Option Addr) (t22n : Nat) (t22c : Nat) (t23 : Int) (t24 : Int) (h : Heap) (K : Value → Heap → Prop) (k : L_split_Fill_0T total out outn outc t22 t22n t22c t23 t24 h K) : L_split_Fill_0 total out outn outc t22 t22n t22c t23 t24 h K :=
 LoopAt.of_ev (cs := []) Try.func18 mixed (fun junk => by kernel_rfl) k
def F_split_FillT (total : Int) (rooms : Option Addr) (roomsn : Nat) (roomsc : Nat) (h : Heap) (K : Value → Heap → Prop) : Prop :=
 Br (decide ((↑roomsn : Int) > 64)) (Ret h K (tuple #[slice none 0 0, int IntKind.i64 0, int IntKind.i64 4]))
 (Br (decide (total < 0)) (Ret h K (tuple #[slice none 0 0, int IntKind.i64 0, int IntKind.i64 1]))
 (CallA Try.prog fn_slices_ContainsFunc_int64_int64 [slice rooms roomsn roomsc, func (Fn.func fn_split_below) #[] #[]] h fun (v : Value) (h : Heap) =>
 ∃ (b : Bool), v = Value.bool b ∧ Br b (Ret h K (tuple #[slice none 0 0, int IntKind.i64 0, int IntKind.i64 1])) (L_split_Fill_0 total none 0 0 rooms roomsn roomsc (↑roomsn : Int) 0 h K)))
theorem F_split_Fill (total : Int) (rooms : Option Addr) (roomsn : Nat) (roomsc : Nat) (h : Heap) (K : Value → Heap → Prop) (k : F_split_FillT total rooms roomsn roomsc h K) : CallA Try.prog fn_split_Fill [int IntKind.i64 total, slice rooms roomsn roomsc] h K :=
 CallA.of_ev (cs := []) Try.func18 (by kernel_rfl) (fun _ _ => Try.call18 _ _) mixed (by kernel_rfl) (by kernel_rfl) k
end Go.Proofs.Ytghdadniddoboaa
