import Derived.Test.YtghdadniddoboaaEqN
namespace Go.Proofs.Ytghdadniddoboaa
open Go Go.Sy Go.Value
set_option linter.unusedVariables false
set_option maxRecDepth 100000
def F_money_AddT (a : Int) (b : Int) (h : Heap) (K : Value → Heap → Prop) : Prop :=
 Br (decide (a < 0) == decide (b < 0))
 (Br (!decide (IntKind.wrap IntKind.i64 (a + b) < 0) == decide (a < 0)) (Ret h K (tuple #[int IntKind.i64 0, int IntKind.i64 3]))
 (Ret h K (tuple #[int IntKind.i64 (IntKind.wrap IntKind.i64 (a + b)), int IntKind.i64 0])))
 (Ret h K (tuple #[int IntKind.i64 (IntKind.wrap IntKind.i64 (a + b)), int IntKind.i64 0]))
theorem F_money_Add (a : Int) (b : Int) (h : Heap) (K : Value → Heap → Prop) (k : F_money_AddT a b h K) : CallA Try.prog fn_money_Add [int IntKind.i64 a, int IntKind.i64 b] h K :=
 CallA.of_ev (cs := []) Try.func72 (by kernel_rfl) (fun _ _ => Try.call72 _ _) mixed (by kernel_rfl) (by kernel_rfl) k
def F_money_SubT (a : Int) (b : Int) (h : Heap) (K : Value → Heap → Prop) : Prop :=
 Br (!decide (a < 0) == decide (b < 0))
 (Br (!decide (IntKind.wrap IntKind.i64 (a - b) < 0) == decide (a < 0)) (Ret h K (tuple #[int IntKind.i64 0, int IntKind.i64 3]))
 (Ret h K (tuple #[int IntKind.i64 (IntKind.wrap IntKind.i64 (a - b)), int IntKind.i64 0])))
 (Ret h K (tuple #[int IntKind.i64 (IntKind.wrap IntKind.i64 (a - b)), int IntKind.i64 0]))
theorem F_money_Sub (a : Int) (b : Int) (h : Heap) (K : Value → Heap → Prop) (k : F_money_SubT a b h K) : CallA Try.prog fn_money_Sub [int IntKind.i64 a, int IntKind.i64 b] h K :=
 CallA.of_ev (cs := []) Try.func155 (by kernel_rfl) (fun _ _ => Try.call155 _ _) mixed (by kernel_rfl) (by kernel_rfl) k
def F_money_MulDivT (a : Int) (b : Int) (c : Int) (up : Bool) (h : Heap) (K : Value → Heap → Prop) : Prop :=
 Br (decide (c < 1)) (Ret h K (tuple #[int IntKind.i64 0, int IntKind.i64 1]))
 (CallA Try.prog fn_money_size [int IntKind.i64 a] h fun (v : Value) (h : Heap) =>
 ∃ (n : Int),
 v = int IntKind.u64 n ∧
 CallA Try.prog fn_money_size [int IntKind.i64 b] h fun (v : Value) (h : Heap) =>
 ∃ (n_1 : Int),
 v = int IntKind.u64 n_1 ∧
 CallA Try.prog fn_money_product [int IntKind.u64 n, int IntKind.u64 n_1] h fun (v : Value) (h : Heap) =>
 ∃ (n : Int),
 ∃ (n_2 : Int),
 v = tuple #[int IntKind.u64 n, int IntKind.u64 n_2] ∧
 CallA Try.prog fn_money_quotient [int IntKind.u64 n, int IntKind.u64 n_2, int IntKind.u64 (IntKind.wrap IntKind.u64 c)] h fun (v : Value) (h : Heap) =>
 ∃ (n : Int),
 ∃ (b_1 : Bool),
 ∃ (b_2 : Bool),
 v = tuple #[int IntKind.u64 n, Value.bool b_1, Value.bool b_2] ∧
 Br (!b_2) (Ret h K (tuple #[int IntKind.i64 0, int IntKind.i64 3]))
 (Br b_1
 (Br (!(!decide (a < 0) == decide (b < 0)) == up)
 (Br (IntKind.wrap IntKind.u64 (n + 1) == 0) (Ret h K (tuple #[int IntKind.i64 0, int IntKind.i64 3]))
 (CallA Try.prog fn_money_signed [int IntKind.u64 (IntKind.wrap IntKind.u64 (n + 1)), Value.bool !decide (a < 0) == decide (b < 0)] h fun (v : Value) (h : Heap) =>
 ∃ (n : Int), ∃ (n_3 : Int), v = tuple #[int IntKind.i64 n, int IntKind.i64 n_3] ∧ Ret h K (tuple #[int IntKind.i64 n, int IntKind.i64 n_3])))
 (CallA Try.prog fn_money_signed [int IntKind.u64 n, Value.bool !decide (a < 0) == decide (b < 0)] h fun (v : Value) (h : Heap) =>
 ∃ (n : Int), ∃ (n_3 : Int), v = tuple #[int IntKind.i64 n, int IntKind.i64 n_3] ∧ Ret h K (tuple #[int IntKind.i64 n, int IntKind.i64 n_3])))
 (CallA Try.prog fn_money_signed [int IntKind.u64 n, Value.bool !decide (a < 0) == decide (b < 0)] h fun (v : Value) (h : Heap) =>
 ∃ (n : Int), ∃ (n_3 : Int), v = tuple #[int IntKind.i64 n, int IntKind.i64 n_3] ∧ Ret h K (tuple #[int IntKind.i64 n, int IntKind.i64 n_3]))))
theorem F_money_MulDiv (a : Int) (b : Int) (c : Int) (up : Bool) (h : Heap) (K : Value → Heap → Prop) (k : F_money_MulDivT a b c up h K) : CallA Try.prog fn_money_MulDiv [int IntKind.i64 a, int IntKind.i64 b, int IntKind.i64 c, Value.bool up] h K :=
 CallA.of_ev (cs := []) Try.func22 (by kernel_rfl) (fun _ _ => Try.call22 _ _) mixed (by kernel_rfl) (by kernel_rfl) k
def L_money_Sum_0 (high : Int) (lower : Int) (t9 : Option Addr) (t9n : Nat) (t9c : Nat) (t10 : Int) (t11 : Int) (h : Heap) (K : Value → Heap → Prop) : Prop :=
 LoopAt Try.prog Try.f21 21 (loopK Try.f21 0) (sp 37 [(4, int IntKind.i64 high), (5, int IntKind.u64 lower), (9, slice t9 t9n t9c), (10, int IntKind.i64 t10), (11, int IntKind.i64 t11)]) h K
def L_money_Sum_0T (high : Int) (lower : Int) (t9 : Option Addr) (t9n : Nat) (t9c : Nat) (t10 : Int) (t11 : Int) (h : Heap) (K : Value → Heap → Prop) : Prop :=
 Br (decide (t11 < t10))
 (0 ≤ t11 ∧
 t11 < (↑t9n : Int) ∧
 withAddr t9 fun (b o : Nat) =>
 ∃ (n : Int),
 Heap.cell h b (o + Int.toNat t11) = some (int IntKind.i64 n) ∧
 Br (decide (IntKind.wrap IntKind.u64 (lower + IntKind.wrap IntKind.u64 n) < lower))
 (L_money_Sum_0 (IntKind.wrap IntKind.i64 (IntKind.wrap IntKind.i64 (high + 1) + Int.fdiv n 9223372036854775808)) (IntKind.wrap IntKind.u64 (lower + IntKind.wrap IntKind.u64 n)) t9 t9n t9c t10
 (IntKind.wrap IntKind.i64 (t11 + 1)) h K)
 (L_money_Sum_0 (IntKind.wrap IntKind.i64 (high + Int.fdiv n 9223372036854775808)) (IntKind.wrap IntKind.u64 (lower + IntKind.wrap IntKind.u64 n)) t9 t9n t9c t10 (IntKind.wrap IntKind.i64 (t11 + 1)) h K))
 (Br (high != Int.fdiv (IntKind.wrap IntKind.i64 lower) 9223372036854775808) (Ret h K (tuple #[int IntKind.i64 0, int IntKind.i64 3]))
 (Ret h K (tuple #[int IntKind.i64 (IntKind.wrap IntKind.i64 lower), int IntKind.i64 0])))
theorem L_money_Sum_0r (high : Int) (lower : Int) (t9 : Option Addr) (t9n : Nat) (t9c : Nat) (t10 : Int) (t11 : Int) (h : Heap) (K : Value → Heap → Prop) (k : L_money_Sum_0T high lower t9 t9n t9c t10 t11 h K) : L_money_Sum_0 high lower t9 t9n t9c t10 t11 h K :=
 LoopAt.of_ev (cs := []) Try.func21 mixed (fun junk => by kernel_rfl) k
def F_money_SumT (l : Option Addr) (ln : Nat) (lc : Nat) (h : Heap) (K : Value → Heap → Prop) : Prop :=
 L_money_Sum_0 0 0 l ln lc (↑ln : Int) 0 h K
theorem F_money_Sum (l : Option Addr) (ln : Nat) (lc : Nat) (h : Heap) (K : Value → Heap → Prop) (k : F_money_SumT l ln lc h K) : CallA Try.prog fn_money_Sum [slice l ln lc] h K :=
 CallA.of_ev (cs := []) Try.func21 (by kernel_rfl) (fun _ _ => Try.call21 _ _) mixed (by kernel_rfl) (by kernel_rfl) k
def L_money_Chain_0 (a : Int) (t10 : Option Addr) (t10n : Nat) (t10c : Nat) (t11 : Int) (t12 : Int) (h : Heap) (K : Value → Heap → Prop) : Prop :=
 LoopAt Try.prog Try.f23 23 (loopK Try.f23 0) (sp 28 [(0, int IntKind.i64 a), (10, slice t10 t10n t10c), (11, int IntKind.i64 t11), (12, int IntKind.i64 t12)]) h K
def L_money_Chain_0T (a : Int) (t10 : Option Addr) (t10n : Nat) (t10c : Nat) (t11 : Int) (t12 : Int) (h : Heap) (K : Value → Heap → Prop) : Prop :=
 Br (decide (t12 < t11))
 (0 ≤ t12 ∧
 t12 < (↑t10n : Int) ∧
 withAddr t10 fun (b o : Nat) =>
 ∃ (n : Int),
 Heap.cell h b (o + Int.toNat t12) = some (int IntKind.i64 n) ∧
 CallA Try.prog fn_money_Add [int IntKind.i64 a, int IntKind.i64 n] h fun (v : Value) (h : Heap) =>
 ∃ (n : Int),
 ∃ (n_1 : Int),
 v = tuple #[int IntKind.i64 n, int IntKind.i64 n_1] ∧ Br (n_1 != 0) (Ret h K (tuple #[int IntKind.i64 0, int IntKind.i64 n_1])) (L_money_Chain_0 n t10 t10n t10c t11 (IntKind.wrap IntKind.i64 (t12 + 1)) h K))
 (Ret h K (tuple #[int IntKind.i64 a, int IntKind.i64 0]))
theorem L_money_Chain_0r (a : Int) (t10 : Option Addr) (t10n : Nat) (t10c : Nat) (t11 : Int) (t12 : Int) (h : Heap) (K : Value → Heap → Prop) (k : L_money_Chain_0T a t10 t10n t10c t11 t12 h K) : L_money_Chain_0 a t10 t10n t10c t11 t12 h K :=
 LoopAt.of_ev (cs := []) Try.func23 mixed (fun junk => by kernel_rfl) k
def F_money_ChainT (a : Int) (l : Option Addr) (ln : Nat) (lc : Nat) (h : Heap) (K : Value → Heap → Prop) : Prop :=
 L_money_Chain_0 a l ln lc (↑ln : Int) 0 h K
theorem F_money_Chain (a : Int) (l : Option Addr) (ln : Nat) (lc : Nat) (h : Heap) (K : Value → Heap → Prop) (k : F_money_ChainT a l ln lc h K) : CallA Try.prog fn_money_Chain [int IntKind.i64 a, slice l ln lc] h K :=
 CallA.of_ev (cs := []) Try.func23 (by kernel_rfl) (fun _ _ => Try.call23 _ _) mixed (by kernel_rfl) (by kernel_rfl) k
def F_money_signedT (n : Int) (neg : Bool) (h : Heap) (K : Value → Heap → Prop) : Prop :=
 Br neg
 (Br (decide (n ≤ 9223372036854775808)) (Ret h K (tuple #[int IntKind.i64 (IntKind.wrap IntKind.i64 (0 - IntKind.wrap IntKind.i64 n)), int IntKind.i64 0]))
 (Br (!neg) (Br (decide (n < 9223372036854775808)) (Ret h K (tuple #[int IntKind.i64 (IntKind.wrap IntKind.i64 n), int IntKind.i64 0])) (Ret h K (tuple #[int IntKind.i64 0, int IntKind.i64 3])))
 (Ret h K (tuple #[int IntKind.i64 0, int IntKind.i64 3]))))
 (Br (!neg) (Br (decide (n < 9223372036854775808)) (Ret h K (tuple #[int IntKind.i64 (IntKind.wrap IntKind.i64 n), int IntKind.i64 0])) (Ret h K (tuple #[int IntKind.i64 0, int IntKind.i64 3])))
 (Ret h K (tuple #[int IntKind.i64 0, int IntKind.i64 3])))
theorem F_money_signed (n : Int) (neg : Bool) (h : Heap) (K : Value → Heap → Prop) (k : F_money_signedT n neg h K) : CallA Try.prog fn_money_signed [int IntKind.u64 n, Value.bool neg] h K :=
 CallA.of_ev (cs := []) Try.func71 (by kernel_rfl) (fun _ _ => Try.call71 _ _) mixed (by kernel_rfl) (by kernel_rfl) k
def F_money_sizeT (a : Int) (h : Heap) (K : Value → Heap → Prop) : Prop :=
 Br (decide (a < 0)) (Ret h K (int IntKind.u64 (IntKind.wrap IntKind.u64 (0 - IntKind.wrap IntKind.u64 a)))) (Ret h K (int IntKind.u64 (IntKind.wrap IntKind.u64 a)))
theorem F_money_size (a : Int) (h : Heap) (K : Value → Heap → Prop) (k : F_money_sizeT a h K) : CallA Try.prog fn_money_size [int IntKind.i64 a] h K :=
 CallA.of_ev (cs := []) Try.func69 (by kernel_rfl) (fun _ _ => Try.call69 _ _) mixed (by kernel_rfl) (by kernel_rfl) k
def F_money_productT (a : Int) (b : Int) (h : Heap) (K : Value → Heap → Prop) : Prop :=
 newB h [int IntKind.u64 0, int IntKind.u64 0, int IntKind.u64 0, int IntKind.u64 0] 163 fun (r : Nat) (h : Heap) =>
 Heap.canSt h r 0 4 ∧
 ∃ (n : Int),
 Heap.cell
 (Heap.setN h r 0
 [int IntKind.u64
 (IntKind.wrap IntKind.u64
 (IntKind.wrap IntKind.u64 (↑(BitVec.toNat (BitVec.ofInt 64 a &&& BitVec.ofInt 64 4294967295)) : Int) *
 IntKind.wrap IntKind.u64 (↑(BitVec.toNat (BitVec.ofInt 64 b &&& BitVec.ofInt 64 4294967295)) : Int))),
 int IntKind.u64 (IntKind.wrap IntKind.u64 (IntKind.wrap IntKind.u64 (↑(BitVec.toNat (BitVec.ofInt 64 a &&& BitVec.ofInt 64 4294967295)) : Int) * Int.fdiv b 4294967296)),
 int IntKind.u64 (IntKind.wrap IntKind.u64 (Int.fdiv a 4294967296 * IntKind.wrap IntKind.u64 (↑(BitVec.toNat (BitVec.ofInt 64 b &&& BitVec.ofInt 64 4294967295)) : Int))),
 int IntKind.u64 (IntKind.wrap IntKind.u64 (Int.fdiv a 4294967296 * Int.fdiv b 4294967296))])
 r 0 =
 some (int IntKind.u64 n) ∧
 ∃ (n_1 : Int),
 Heap.cell
 (Heap.setN h r 0
 [int IntKind.u64
 (IntKind.wrap IntKind.u64
 (IntKind.wrap IntKind.u64 (↑(BitVec.toNat (BitVec.ofInt 64 a &&& BitVec.ofInt 64 4294967295)) : Int) *
 IntKind.wrap IntKind.u64 (↑(BitVec.toNat (BitVec.ofInt 64 b &&& BitVec.ofInt 64 4294967295)) : Int))),
 int IntKind.u64 (IntKind.wrap IntKind.u64 (IntKind.wrap IntKind.u64 (↑(BitVec.toNat (BitVec.ofInt 64 a &&& BitVec.ofInt 64 4294967295)) : Int) * Int.fdiv b 4294967296)),
 int IntKind.u64 (IntKind.wrap IntKind.u64 (Int.fdiv a 4294967296 * IntKind.wrap IntKind.u64 (↑(BitVec.toNat (BitVec.ofInt 64 b &&& BitVec.ofInt 64 4294967295)) : Int))),
 int IntKind.u64 (IntKind.wrap IntKind.u64 (Int.fdiv a 4294967296 * Int.fdiv b 4294967296))])
 r 1 =
 some (int IntKind.u64 n_1) ∧
 ∃ (n_2 : Int),
 Heap.cell
 (Heap.setN h r 0
 [int IntKind.u64
 (IntKind.wrap IntKind.u64
 (IntKind.wrap IntKind.u64 (↑(BitVec.toNat (BitVec.ofInt 64 a &&& BitVec.ofInt 64 4294967295)) : Int) *
 IntKind.wrap IntKind.u64 (↑(BitVec.toNat (BitVec.ofInt 64 b &&& BitVec.ofInt 64 4294967295)) : Int))),
 int IntKind.u64 (IntKind.wrap IntKind.u64 (IntKind.wrap IntKind.u64 (↑(BitVec.toNat (BitVec.ofInt 64 a &&& BitVec.ofInt 64 4294967295)) : Int) * Int.fdiv b 4294967296)),
 int IntKind.u64 (IntKind.wrap IntKind.u64 (Int.fdiv a 4294967296 * IntKind.wrap IntKind.u64 (↑(BitVec.toNat (BitVec.ofInt 64 b &&& BitVec.ofInt 64 4294967295)) : Int))),
 int IntKind.u64 (IntKind.wrap IntKind.u64 (Int.fdiv a 4294967296 * Int.fdiv b 4294967296))])
 r 2 =
 some (int IntKind.u64 n_2) ∧
 ∃ (n_3 : Int),
 Heap.cell
 (Heap.setN h r 0
 [int IntKind.u64
 (IntKind.wrap IntKind.u64
 (IntKind.wrap IntKind.u64 (↑(BitVec.toNat (BitVec.ofInt 64 a &&& BitVec.ofInt 64 4294967295)) : Int) *
 IntKind.wrap IntKind.u64 (↑(BitVec.toNat (BitVec.ofInt 64 b &&& BitVec.ofInt 64 4294967295)) : Int))),
 int IntKind.u64 (IntKind.wrap IntKind.u64 (IntKind.wrap IntKind.u64 (↑(BitVec.toNat (BitVec.ofInt 64 a &&& BitVec.ofInt 64 4294967295)) : Int) * Int.fdiv b 4294967296)),
 int IntKind.u64 (IntKind.wrap IntKind.u64 (Int.fdiv a 4294967296 * IntKind.wrap IntKind.u64 (↑(BitVec.toNat (BitVec.ofInt 64 b &&& BitVec.ofInt 64 4294967295)) : Int))),
 int IntKind.u64 (IntKind.wrap IntKind.u64 (Int.fdiv a 4294967296 * Int.fdiv b 4294967296))])
 r 0 =
 some (int IntKind.u64 n_3) ∧
 ∃ (n_4 : Int),
 Heap.cell
 (Heap.setN h r 0
 [int IntKind.u64
 (IntKind.wrap IntKind.u64
 (IntKind.wrap IntKind.u64 (↑(BitVec.toNat (BitVec.ofInt 64 a &&& BitVec.ofInt 64 4294967295)) : Int) *
 IntKind.wrap IntKind.u64 (↑(BitVec.toNat (BitVec.ofInt 64 b &&& BitVec.ofInt 64 4294967295)) : Int))),
 int IntKind.u64 (IntKind.wrap IntKind.u64 (IntKind.wrap IntKind.u64 (↑(BitVec.toNat (BitVec.ofInt 64 a &&& BitVec.ofInt 64 4294967295)) : Int) * Int.fdiv b 4294967296)),
 int IntKind.u64 (IntKind.wrap IntKind.u64 (Int.fdiv a 4294967296 * IntKind.wrap IntKind.u64 (↑(BitVec.toNat (BitVec.ofInt 64 b &&& BitVec.ofInt 64 4294967295)) : Int))),
 int IntKind.u64 (IntKind.wrap IntKind.u64 (Int.fdiv a 4294967296 * Int.fdiv b 4294967296))])
 r 3 =
 some (int IntKind.u64 n_4) ∧
 ∃ (n_5 : Int),
 Heap.cell
 (Heap.setN h r 0
 [int IntKind.u64
 (IntKind.wrap IntKind.u64
 (IntKind.wrap IntKind.u64 (↑(BitVec.toNat (BitVec.ofInt 64 a &&& BitVec.ofInt 64 4294967295)) : Int) *
 IntKind.wrap IntKind.u64 (↑(BitVec.toNat (BitVec.ofInt 64 b &&& BitVec.ofInt 64 4294967295)) : Int))),
 int IntKind.u64 (IntKind.wrap IntKind.u64 (IntKind.wrap IntKind.u64 (↑(BitVec.toNat (BitVec.ofInt 64 a &&& BitVec.ofInt 64 4294967295)) : Int) * Int.fdiv b 4294967296)),
 int IntKind.u64 (IntKind.wrap IntKind.u64 (Int.fdiv a 4294967296 * IntKind.wrap IntKind.u64 (↑(BitVec.toNat (BitVec.ofInt 64 b &&& BitVec.ofInt 64 4294967295)) : Int))),
 int IntKind.u64 (IntKind.wrap IntKind.u64 (Int.fdiv a 4294967296 * Int.fdiv b 4294967296))])
 r 1 =
 some (int IntKind.u64 n_5) ∧
 ∃ (n_6 : Int),
 Heap.cell
 (Heap.setN h r 0
 [int IntKind.u64
 (IntKind.wrap IntKind.u64
 (IntKind.wrap IntKind.u64 (↑(BitVec.toNat (BitVec.ofInt 64 a &&& BitVec.ofInt 64 4294967295)) : Int) *
 IntKind.wrap IntKind.u64 (↑(BitVec.toNat (BitVec.ofInt 64 b &&& BitVec.ofInt 64 4294967295)) : Int))),
 int IntKind.u64 (IntKind.wrap IntKind.u64 (IntKind.wrap IntKind.u64 (↑(BitVec.toNat (BitVec.ofInt 64 a &&& BitVec.ofInt 64 4294967295)) : Int) * Int.fdiv b 4294967296)),
 int IntKind.u64 (IntKind.wrap IntKind.u64 (Int.fdiv a 4294967296 * IntKind.wrap IntKind.u64 (↑(BitVec.toNat (BitVec.ofInt 64 b &&& BitVec.ofInt 64 4294967295)) : Int))),
 int IntKind.u64 (IntKind.wrap IntKind.u64 (Int.fdiv a 4294967296 * Int.fdiv b 4294967296))])
 r 2 =
 some (int IntKind.u64 n_6) ∧
 Ret
 (Heap.setN h r 0
 [int IntKind.u64
 (IntKind.wrap IntKind.u64
 (IntKind.wrap IntKind.u64 (↑(BitVec.toNat (BitVec.ofInt 64 a &&& BitVec.ofInt 64 4294967295)) : Int) *
 IntKind.wrap IntKind.u64 (↑(BitVec.toNat (BitVec.ofInt 64 b &&& BitVec.ofInt 64 4294967295)) : Int))),
 int IntKind.u64 (IntKind.wrap IntKind.u64 (IntKind.wrap IntKind.u64 (↑(BitVec.toNat (BitVec.ofInt 64 a &&& BitVec.ofInt 64 4294967295)) : Int) * Int.fdiv b 4294967296)),
 int IntKind.u64 (IntKind.wrap IntKind.u64 (Int.fdiv a 4294967296 * IntKind.wrap IntKind.u64 (↑(BitVec.toNat (BitVec.ofInt 64 b &&& BitVec.ofInt 64 4294967295)) : Int))),
 int IntKind.u64 (IntKind.wrap IntKind.u64 (Int.fdiv a 4294967296 * Int.fdiv b 4294967296))])
 K
 (tuple
 #[int IntKind.u64
 (IntKind.wrap IntKind.u64
 (IntKind.wrap IntKind.u64 (IntKind.wrap IntKind.u64 (n_4 + Int.fdiv n_5 4294967296) + Int.fdiv n_6 4294967296) +
 Int.fdiv
 (IntKind.wrap IntKind.u64
 (IntKind.wrap IntKind.u64 (Int.fdiv n 4294967296 + IntKind.wrap IntKind.u64 (↑(BitVec.toNat (BitVec.ofInt 64 n_1 &&& BitVec.ofInt 64 4294967295)) : Int)) +
 IntKind.wrap IntKind.u64 (↑(BitVec.toNat (BitVec.ofInt 64 n_2 &&& BitVec.ofInt 64 4294967295)) : Int)))
 4294967296)),
 int IntKind.u64
 (IntKind.wrap IntKind.u64
 (↑(BitVec.toNat
 (BitVec.ofInt 64 (IntKind.wrap IntKind.u64 (↑(BitVec.toNat (BitVec.ofInt 64 n_3 &&& BitVec.ofInt 64 4294967295)) : Int)) |||
 BitVec.ofInt 64
 (IntKind.wrap IntKind.u64
 (IntKind.wrap IntKind.u64
 (IntKind.wrap IntKind.u64 (Int.fdiv n 4294967296 + IntKind.wrap IntKind.u64 (↑(BitVec.toNat (BitVec.ofInt 64 n_1 &&& BitVec.ofInt 64 4294967295)) : Int)) +
 IntKind.wrap IntKind.u64 (↑(BitVec.toNat (BitVec.ofInt 64 n_2 &&& BitVec.ofInt 64 4294967295)) : Int)) *
 4294967296)))) :
 Int))])
theorem F_money_product (a : Int) (b : Int) (h : Heap) (K : Value → Heap → Prop) (k : F_money_productT a b h K) : CallA Try.prog fn_money_product [int IntKind.u64 a, int IntKind.u64 b] h K :=
 CallA.of_ev (cs := []) Try.func68 (by kernel_rfl) (fun _ _ => Try.call68 _ _) mixed (by kernel_rfl) (by kernel_rfl) k
def L_money_quotient_0 (lower : Int) (by' : Int) (q : Int) (rest : Int) (t15 : Int) (h : Heap) (K : Value → Heap → Prop) : Prop :=
 LoopAt Try.prog Try.f70 70 (loopK Try.f70 0) (sp 43 [(1, int IntKind.u64 lower), (2, int IntKind.u64 by'), (6, int IntKind.u64 q), (9, int IntKind.u64 rest), (15, int IntKind.i64 t15)]) h K
def L_money_quotient_0T (lower : Int) (by' : Int) (q : Int) (rest : Int) (t15 : Int) (h : Heap) (K : Value → Heap → Prop) : Prop :=
 Br (decide (t15 < 64))
 (Br (decide (rest ≥ 9223372036854775808))
 (L_money_quotient_0 (IntKind.wrap IntKind.u64 (lower * 2)) by' (IntKind.wrap IntKind.u64 (↑(BitVec.toNat (BitVec.ofInt 64 (IntKind.wrap IntKind.u64 (q * 2)) ||| BitVec.ofInt 64 1)) : Int))
 (IntKind.wrap IntKind.u64 (IntKind.wrap IntKind.u64 (↑(BitVec.toNat (BitVec.ofInt 64 (IntKind.wrap IntKind.u64 (rest * 2)) ||| BitVec.ofInt 64 (Int.fdiv lower 9223372036854775808))) : Int) - by'))
 (IntKind.wrap IntKind.i64 (t15 + 1)) h K)
 (Br (decide (IntKind.wrap IntKind.u64 (↑(BitVec.toNat (BitVec.ofInt 64 (IntKind.wrap IntKind.u64 (rest * 2)) ||| BitVec.ofInt 64 (Int.fdiv lower 9223372036854775808))) : Int) ≥ by'))
 (L_money_quotient_0 (IntKind.wrap IntKind.u64 (lower * 2)) by' (IntKind.wrap IntKind.u64 (↑(BitVec.toNat (BitVec.ofInt 64 (IntKind.wrap IntKind.u64 (q * 2)) ||| BitVec.ofInt 64 1)) : Int))
 (IntKind.wrap IntKind.u64 (IntKind.wrap IntKind.u64 (↑(BitVec.toNat (BitVec.ofInt 64 (IntKind.wrap IntKind.u64 (rest * 2)) ||| BitVec.ofInt 64 (Int.fdiv lower 9223372036854775808))) : Int) - by'))
 (IntKind.wrap IntKind.i64 (t15 + 1)) h K)
 (L_money_quotient_0 (IntKind.wrap IntKind.u64 (lower * 2)) by' (IntKind.wrap IntKind.u64 (q * 2))
 (IntKind.wrap IntKind.u64 (↑(BitVec.toNat (BitVec.ofInt 64 (IntKind.wrap IntKind.u64 (rest * 2)) ||| BitVec.ofInt 64 (Int.fdiv lower 9223372036854775808))) : Int)) (IntKind.wrap IntKind.i64 (t15 + 1)) h K)))
 (Ret h K (tuple #[int IntKind.u64 q, Value.bool (rest != 0), Value.bool true]))
theorem L_money_quotient_0r (lower : Int) (by' : Int) (q : Int) (rest : Int) (t15 : Int) (h : Heap) (K : Value → Heap → Prop) (k : L_money_quotient_0T lower by' q rest t15 h K) : L_money_quotient_0 lower by' q rest t15 h K :=
 LoopAt.of_ev (cs := []) Try.func70 mixed (fun junk => by kernel_rfl) k
def F_money_quotientT (high : Int) (lower : Int) (by' : Int) (h : Heap) (K : Value → Heap → Prop) : Prop :=
 Br (decide (high ≥ by')) (Ret h K (tuple #[int IntKind.u64 0, Value.bool false, Value.bool false])) (L_money_quotient_0 lower by' 0 high 0 h K)
theorem F_money_quotient (high : Int) (lower : Int) (by' : Int) (h : Heap) (K : Value → Heap → Prop) (k : F_money_quotientT high lower by' h K) : CallA Try.prog fn_money_quotient [int IntKind.u64 high, int IntKind.u64 lower, int IntKind.u64 by'] h K :=
 CallA.of_ev (cs := []) Try.func70 (by kernel_rfl) (fun _ _ => Try.call70 _ _) mixed (by kernel_rfl) (by kernel_rfl) k
end Go.Proofs.Ytghdadniddoboaa
