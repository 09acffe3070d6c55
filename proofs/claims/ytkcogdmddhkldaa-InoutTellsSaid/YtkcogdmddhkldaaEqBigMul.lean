import Derived.Test.YtkcogdmddhkldaaEqN
namespace Go.Proofs.Ytkcogdmddhkldaa
open Go Go.Sy Go.Value
set_option linter.unusedVariables false
set_option maxRecDepth 100000
def L_ref01_Mul_0 (a : Nat) (b : Nat) (t4 : Nat) (out : Nat) (i : Int) (h : Heap) (K : Value → Heap → Prop) : Prop :=
 LoopAt Try.prog Try.f126 126 (loopK Try.f126 0) (sp 70 [(2, pointer (some { block := a, off := 0 })), (3, pointer (some { block := b, off := 0 })), (4, pointer (some { block := t4, off := 0 })), (5, pointer (some { block := out, off := 0 })), (6, int IntKind.i64 i)]) h K
def L_ref01_Mul_1 (a : Nat) (b : Nat) (t4 : Nat) (out : Nat) (i : Int) (carry : Int) (k' : Int) (h : Heap) (K : Value → Heap → Prop) : Prop :=
 LoopAt Try.prog Try.f126 126 (loopK Try.f126 1) (sp 70 [(2, pointer (some { block := a, off := 0 })), (3, pointer (some { block := b, off := 0 })), (4, pointer (some { block := t4, off := 0 })), (5, pointer (some { block := out, off := 0 })), (6, int IntKind.i64 i),
 (7, int IntKind.i64 carry), (8, int IntKind.i64 k')]) h K
def L_ref01_Mul_0T (a : Nat) (b : Nat) (t4 : Nat) (out : Nat) (i : Int) (h : Heap) (K : Value → Heap → Prop) : Prop :=
 ∃ (a_1 : Option Addr),
 ∃ (n : Nat),
 ∃ (m : Nat),
 Heap.cell h a 1 = some (slice a_1 n m) ∧
 Br (decide (i < (↑n : Int))) (L_ref01_Mul_1 a b t4 out i 0 0 h K)
 (∃ (b : Bool),
 Heap.cell h out 0 = some (Value.bool b) ∧
 ∃ (a : Option Addr),
 ∃ (n : Nat),
 ∃ (m : Nat),
 Heap.cell h out 1 = some (slice a n m) ∧
 CallA Try.prog fn_ref01_trim [agg #[Value.bool b, slice a n m]] h fun (v : Value) (h : Heap) =>
 ∃ (b : Bool),
 ∃ (a : Option Addr),
 ∃ (n : Nat),
 ∃ (m : Nat),
 v = agg #[Value.bool b, slice a n m] ∧
 Heap.canSt h t4 0 2 ∧
 ∃ (b_1 : Bool),
 Heap.cell (Heap.setN h t4 0 [Value.bool b, slice a n m]) t4 0 = some (Value.bool b_1) ∧
 ∃ (a_2 : Option Addr),
 ∃ (n_1 : Nat),
 ∃ (m_1 : Nat),
 Heap.cell (Heap.setN h t4 0 [Value.bool b, slice a n m]) t4 1 = some (slice a_2 n_1 m_1) ∧
 Ret (Heap.setN h t4 0 [Value.bool b, slice a n m]) K (agg #[Value.bool b_1, slice a_2 n_1 m_1]))
theorem L_ref01_Mul_0r (a : Nat) (b : Nat) (t4 : Nat) (out : Nat) (i : Int) (h : Heap) (K : Value → Heap → Prop) (k : L_ref01_Mul_0T a b t4 out i h K) : L_ref01_Mul_0 a b t4 out i h K :=
 LoopAt.of_ev (cs := []) Try.func126 mixed (fun junk => by kernel_rfl) k
def L_ref01_Mul_1T (a : Nat) (b : Nat) (t4 : Nat) (out : Nat) (i : Int) (carry : Int) (k' : Int) (h : Heap) (K : Value → Heap → Prop) : Prop :=
 ∃ (a_1 : Option Addr),
 ∃ (n : Nat),
 ∃ (m : Nat),
 Heap.cell h b 1 = some (slice a_1 n m) ∧
 Br (decide (k' < IntKind.wrap IntKind.i64 ((↑n : Int) + 1)))
 (∃ (a_2 : Option Addr),
 ∃ (n : Nat),
 ∃ (m : Nat),
 Heap.cell h out 1 = some (slice a_2 n m) ∧
 0 ≤ IntKind.wrap IntKind.i64 (i + k') ∧
 IntKind.wrap IntKind.i64 (i + k') < (↑n : Int) ∧
 withAddr a_2 fun (b_1 o : Nat) =>
 ∃ (n : Int),
 Heap.cell h b_1 (o + Int.toNat (IntKind.wrap IntKind.i64 (i + k'))) = some (int IntKind.i64 n) ∧
 ∃ (a_3 : Option Addr),
 ∃ (n_1 : Nat),
 ∃ (m : Nat),
 Heap.cell h a 1 = some (slice a_3 n_1 m) ∧
 0 ≤ i ∧
 i < (↑n_1 : Int) ∧
 withAddr a_3 fun (b_2 o : Nat) =>
 ∃ (n_2 : Int),
 Heap.cell h b_2 (o + Int.toNat i) = some (int IntKind.i64 n_2) ∧
 ∃ (b_3 : Bool),
 Heap.cell h b 0 = some (Value.bool b_3) ∧
 ∃ (a_4 : Option Addr),
 ∃ (n_3 : Nat),
 ∃ (m : Nat),
 Heap.cell h b 1 = some (slice a_4 n_3 m) ∧
 CallA Try.prog fn_ref01_digit [agg #[Value.bool b_3, slice a_4 n_3 m], int IntKind.i64 k'] h fun (v : Value) (h_1 : Heap) =>
 ∃ (n_4 : Int),
 v = int IntKind.i64 n_4 ∧
 (Heap.le h h_1 ∨ Keeps [out, b_1, a, b_2] h h_1) ∧
 ∃ (a_5 : Option Addr),
 ∃ (n_5 : Nat),
 ∃ (m : Nat),
 Heap.cell h_1 out 1 = some (slice a_5 n_5 m) ∧
 0 ≤ IntKind.wrap IntKind.i64 (i + k') ∧
 IntKind.wrap IntKind.i64 (i + k') < (↑n_5 : Int) ∧
 withAddr a_5 fun (b_4 o : Nat) =>
 Heap.canSt h_1 b_4 (o + Int.toNat (IntKind.wrap IntKind.i64 (i + k'))) 1 ∧
 L_ref01_Mul_1 a b t4 out i
 (IntKind.wrap IntKind.i64
 (Int.tdiv (IntKind.wrap IntKind.i64 (IntKind.wrap IntKind.i64 (carry + n) + IntKind.wrap IntKind.i64 (n_2 * n_4))) 10000))
 (IntKind.wrap IntKind.i64 (k' + 1))
 (Heap.setN h_1 b_4 (o + Int.toNat (IntKind.wrap IntKind.i64 (i + k')))
 [int IntKind.i64
 (Int.tmod (IntKind.wrap IntKind.i64 (IntKind.wrap IntKind.i64 (carry + n) + IntKind.wrap IntKind.i64 (n_2 * n_4))) 10000)])
 K)
 (L_ref01_Mul_0 a b t4 out (IntKind.wrap IntKind.i64 (i + 1)) h K)
theorem L_ref01_Mul_1r (a : Nat) (b : Nat) (t4 : Nat) (out : Nat) (i : Int) (carry : Int) (k' : Int) (h : Heap) (K : Value → Heap → Prop) (k : L_ref01_Mul_1T a b t4 out i carry k' h K) : L_ref01_Mul_1 a b t4 out i carry k' h K :=
 LoopAt.of_ev (cs := []) Try.func126 mixed (fun junk => by kernel_rfl) k
def F_ref01_MulT (a_0 : Bool) (a_1 : Option Addr) (a_1n : Nat) (a_1c : Nat) (b_0 : Bool) (b_1 : Option Addr) (b_1n : Nat) (b_1c : Nat) (h : Heap) (K : Value → Heap → Prop) : Prop :=
 newB h [Value.bool a_0, slice a_1 a_1n a_1c] 118 fun (r : Nat) (h : Heap) =>
 newB h [Value.bool b_0, slice b_1 b_1n b_1c] 118 fun (r_1 : Nat) (h : Heap) =>
 newB h [Value.bool false, slice none 0 0] 118 fun (r_2 : Nat) (h : Heap) =>
 ∃ (b : Bool),
 Heap.cell h r 0 = some (Value.bool b) ∧
 ∃ (b_2 : Bool),
 Heap.cell h r_1 0 = some (Value.bool b_2) ∧
 ∃ (a : Option Addr),
 ∃ (n : Nat),
 ∃ (m : Nat),
 Heap.cell h r 1 = some (slice a n m) ∧
 ∃ (a : Option Addr),
 ∃ (n_1 : Nat),
 ∃ (m : Nat),
 Heap.cell h r_1 1 = some (slice a n_1 m) ∧
 0 ≤ IntKind.wrap IntKind.i64 (IntKind.wrap IntKind.i64 ((↑n : Int) + (↑n_1 : Int)) + 1) ∧
 IntKind.wrap IntKind.i64 (IntKind.wrap IntKind.i64 ((↑n : Int) + (↑n_1 : Int)) + 1) ≤ IntKind.wrap IntKind.i64 (IntKind.wrap IntKind.i64 ((↑n : Int) + (↑n_1 : Int)) + 1) ∧
 IntKind.wrap IntKind.i64 (IntKind.wrap IntKind.i64 ((↑n : Int) + (↑n_1 : Int)) + 1) ≤ 281474976710656 ∧
 8 * IntKind.wrap IntKind.i64 (IntKind.wrap IntKind.i64 ((↑n : Int) + (↑n_1 : Int)) + 1) ≤ 281474976710656 ∧
 newB h (repL (Int.toNat (IntKind.wrap IntKind.i64 (IntKind.wrap IntKind.i64 ((↑n : Int) + (↑n_1 : Int)) + 1))) [int IntKind.i64 0]) 3 fun (r_3 : Nat) (h : Heap) =>
 newB h [Value.bool false, slice none 0 0] 118 fun (r_4 : Nat) (h : Heap) =>
 Heap.canSt h r_4 0 2 ∧
 L_ref01_Mul_0 r r_1 r_2 r_4 0
 (Heap.setN h r_4 0
 [Value.bool !b == b_2,
 slice (some { block := r_3, off := 0 }) (Int.toNat (IntKind.wrap IntKind.i64 (IntKind.wrap IntKind.i64 ((↑n : Int) + (↑n_1 : Int)) + 1)))
 (Int.toNat (IntKind.wrap IntKind.i64 (IntKind.wrap IntKind.i64 ((↑n : Int) + (↑n_1 : Int)) + 1)))])
 K
theorem F_ref01_Mul (a_0 : Bool) (a_1 : Option Addr) (a_1n : Nat) (a_1c : Nat) (b_0 : Bool) (b_1 : Option Addr) (b_1n : Nat) (b_1c : Nat) (h : Heap) (K : Value → Heap → Prop) (k : F_ref01_MulT a_0 a_1 a_1n a_1c b_0 b_1 b_1n b_1c h K) : CallA Try.prog fn_ref01_Mul [agg #[Value.bool a_0, slice a_1 a_1n a_1c], agg #[Value.bool b_0, slice b_1 b_1n b_1c]] h K :=
 CallA.of_ev (cs := []) Try.func126 (by kernel_rfl) (fun _ _ => Try.call126 _ _) mixed (by kernel_rfl) (by kernel_rfl) k
end Go.Proofs.Ytkcogdmddhkldaa
