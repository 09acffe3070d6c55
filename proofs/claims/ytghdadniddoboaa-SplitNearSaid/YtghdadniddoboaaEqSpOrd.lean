import Derived.Test.YtghdadniddoboaaEqN
namespace Go.Proofs.Ytghdadniddoboaa
open Go Go.Sy Go.Value
set_option linter.unusedVariables false
set_option maxRecDepth 100000
def F_split_by_orderT (b_0 : Option Addr) (b_0n : Nat) (b_0c : Nat) (i : Int) (k' : Int) (h : Heap) (K : Value → Heap → Prop) : Prop :=
 newB h [slice b_0 b_0n b_0c] 96 fun (r : Nat) (h : Heap) =>
 ∃ (a : Option Addr),
 ∃ (n : Nat),
 ∃ (m : Nat),
 Heap.cell h r 0 = some (slice a n m) ∧
 0 ≤ k' ∧
 k' < (↑n : Int) ∧
 withAddr a fun (b o : Nat) =>
 ∃ (n : Int),
 Heap.cell h b (o + Int.toNat k') = some (int IntKind.i64 n) ∧
 ∃ (a : Option Addr),
 ∃ (n_1 : Nat),
 ∃ (m : Nat),
 Heap.cell h r 0 = some (slice a n_1 m) ∧
 0 ≤ i ∧
 i < (↑n_1 : Int) ∧
 withAddr a fun (b o : Nat) =>
 ∃ (n_2 : Int),
 Heap.cell h b (o + Int.toNat i) = some (int IntKind.i64 n_2) ∧
 CallA Try.prog fn_cmp_Compare_int64 [int IntKind.i64 n, int IntKind.i64 n_2] h fun (v : Value) (h : Heap) =>
 ∃ (n : Int),
 v = int IntKind.i64 n ∧
 CallA Try.prog fn_cmp_Compare_int [int IntKind.i64 i, int IntKind.i64 k'] h fun (v : Value) (h : Heap) =>
 ∃ (n_3 : Int),
 v = int IntKind.i64 n_3 ∧
 newB h [int IntKind.i64 n, int IntKind.i64 n_3] 3 fun (r : Nat) (h : Heap) =>
 CallA Try.prog fn_cmp_Or_int [slice (some { block := r, off := 0 }) 2 2] h fun (v : Value) (h : Heap) => ∃ (n : Int), v = int IntKind.i64 n ∧ Ret h K (int IntKind.i64 n)
theorem F_split_by_order (b_0 : Option Addr) (b_0n : Nat) (b_0c : Nat) (i : Int) (k' : Int) (h : Heap) (K : Value → Heap → Prop) (k : F_split_by_orderT b_0 b_0n b_0c i k' h K) : CallA Try.prog fn_split_by_order [agg #[slice b_0 b_0n b_0c], int IntKind.i64 i, int IntKind.i64 k'] h K :=
 CallA.of_ev (cs := []) Try.func58 (by kernel_rfl) (fun _ _ => Try.call58 _ _) mixed (by kernel_rfl) (by kernel_rfl) k
def L_cmp_Or_int_0 (zero : Int) (t6 : Option Addr) (t6n : Nat) (t6c : Nat) (t7 : Int) (t8 : Int) (h : Heap) (K : Value → Heap → Prop) : Prop :=
 LoopAt Try.prog Try.f106 106 (loopK Try.f106 0) (sp 18 [(3, int IntKind.i64 zero), (6, slice t6 t6n t6c), (7, int IntKind.i64 t7), (8, int IntKind.i64 t8)]) h K
def L_cmp_Or_int_0T (zero : Int) (t6 : Option Addr) (t6n : Nat) (t6c : Nat) (t7 : Int) (t8 : Int) (h : Heap) (K : Value → Heap → Prop) : Prop :=
 Br (decide (t8 < t7))
 (0 ≤ t8 ∧
 t8 < (↑t6n : Int) ∧
 withAddr t6 fun (b o : Nat) =>
 ∃ (n : Int), Heap.cell h b (o + Int.toNat t8) = some (int IntKind.i64 n) ∧ Br (n != zero) (Ret h K (int IntKind.i64 n)) (L_cmp_Or_int_0 zero t6 t6n t6c t7 (IntKind.wrap IntKind.i64 (t8 + 1)) h K))
 (Ret h K (int IntKind.i64 zero))
theorem L_cmp_Or_int_0r (zero : Int) (t6 : Option Addr) (t6n : Nat) (t6c : Nat) (t7 : Int) (t8 : Int) (h : Heap) (K : Value → Heap → Prop) (k : L_cmp_Or_int_0T zero t6 t6n t6c t7 t8 h K) : L_cmp_Or_int_0 zero t6 t6n t6c t7 t8 h K :=
 LoopAt.of_ev (cs := []) Try.func106 mixed (fun junk => by kernel_rfl) k
def F_cmp_Or_intT (vals : Option Addr) (valsn : Nat) (valsc : Nat) (h : Heap) (K : Value → Heap → Prop) : Prop :=
 L_cmp_Or_int_0 0 vals valsn valsc (↑valsn : Int) 0 h K
theorem F_cmp_Or_int (vals : Option Addr) (valsn : Nat) (valsc : Nat) (h : Heap) (K : Value → Heap → Prop) (k : F_cmp_Or_intT vals valsn valsc h K) : CallA Try.prog fn_cmp_Or_int [slice vals valsn valsc] h K :=
 CallA.of_ev (cs := []) Try.func106 (by kernel_rfl) (fun _ _ => Try.call106 _ _) mixed (by kernel_rfl) (by kernel_rfl) k
def F_cmp_Compare_int64T (x : Int) (y : Int) (h : Heap) (K : Value → Heap → Prop) : Prop :=
 CallA Try.prog fn_cmp_isNaN_int64 [int IntKind.i64 x] h fun (v : Value) (h : Heap) =>
 ∃ (b : Bool),
 v = Value.bool b ∧
 CallA Try.prog fn_cmp_isNaN_int64 [int IntKind.i64 y] h fun (v : Value) (h : Heap) =>
 ∃ (b_1 : Bool),
 v = Value.bool b_1 ∧
 Br b (Br b_1 (Ret h K (int IntKind.i64 0)) (Ret h K (int IntKind.i64 (-1))))
 (Br b_1 (Ret h K (int IntKind.i64 1)) (Br (decide (x < y)) (Ret h K (int IntKind.i64 (-1))) (Br (decide (x > y)) (Ret h K (int IntKind.i64 1)) (Ret h K (int IntKind.i64 0)))))
theorem F_cmp_Compare_int64 (x : Int) (y : Int) (h : Heap) (K : Value → Heap → Prop) (k : F_cmp_Compare_int64T x y h K) : CallA Try.prog fn_cmp_Compare_int64 [int IntKind.i64 x, int IntKind.i64 y] h K :=
 CallA.of_ev (cs := []) Try.func107 (by kernel_rfl) (fun _ _ => Try.call107 _ _) mixed (by kernel_rfl) (by kernel_rfl) k
def F_cmp_Compare_intT (x : Int) (y : Int) (h : Heap) (K : Value → Heap → Prop) : Prop :=
 CallA Try.prog fn_cmp_isNaN_int [int IntKind.i64 x] h fun (v : Value) (h : Heap) =>
 ∃ (b : Bool),
 v = Value.bool b ∧
 CallA Try.prog fn_cmp_isNaN_int [int IntKind.i64 y] h fun (v : Value) (h : Heap) =>
 ∃ (b_1 : Bool),
 v = Value.bool b_1 ∧
 Br b (Br b_1 (Ret h K (int IntKind.i64 0)) (Ret h K (int IntKind.i64 (-1))))
 (Br b_1 (Ret h K (int IntKind.i64 1)) (Br (decide (x < y)) (Ret h K (int IntKind.i64 (-1))) (Br (decide (x > y)) (Ret h K (int IntKind.i64 1)) (Ret h K (int IntKind.i64 0)))))
theorem F_cmp_Compare_int (x : Int) (y : Int) (h : Heap) (K : Value → Heap → Prop) (k : F_cmp_Compare_intT x y h K) : CallA Try.prog fn_cmp_Compare_int [int IntKind.i64 x, int IntKind.i64 y] h K :=
 CallA.of_ev (cs := []) Try.func108 (by kernel_rfl) (fun _ _ => Try.call108 _ _) mixed (by kernel_rfl) (by kernel_rfl) k
def F_cmp_isNaN_int64T (x : Int) (h : Heap) (K : Value → Heap → Prop) : Prop :=
 Ret h K (Value.bool (x != x))
theorem F_cmp_isNaN_int64 (x : Int) (h : Heap) (K : Value → Heap → Prop) (k : F_cmp_isNaN_int64T x h K) : CallA Try.prog fn_cmp_isNaN_int64 [int IntKind.i64 x] h K :=
 CallA.of_ev (cs := []) Try.func147 (by kernel_rfl) (fun _ _ => Try.call147 _ _) mixed (by kernel_rfl) (by kernel_rfl) k
def F_cmp_isNaN_intT (x : Int) (h : Heap) (K : Value → Heap → Prop) : Prop :=
 Ret h K (Value.bool (x != x))
theorem F_cmp_isNaN_int (x : Int) (h : Heap) (K : Value → Heap → Prop) (k : F_cmp_isNaN_intT x h K) : CallA Try.prog fn_cmp_isNaN_int [int IntKind.i64 x] h K :=
 CallA.of_ev (cs := []) Try.func148 (by kernel_rfl) (fun _ _ => Try.call148 _ _) mixed (by kernel_rfl) (by kernel_rfl) k
end Go.Proofs.Ytghdadniddoboaa
