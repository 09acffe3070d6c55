import Derived.Test.YtkcogdmddhkldaaEqN
namespace Go.Proofs.Ytkcogdmddhkldaa
open Go Go.Sy Go.Value
set_option linter.unusedVariables false
set_option maxRecDepth 100000
def L_ref01_Add_0 (a : Nat) (b : Nat) (t4 : Nat) (out : Nat) (carry : Int) (i : Int) (h : Heap) (K : Value → Heap → Prop) : Prop :=
 LoopAt Try.prog Try.f73 73 (loopK Try.f73 0) (sp 85 [(2, pointer (some { block := a, off := 0 })), (3, pointer (some { block := b, off := 0 })), (4, pointer (some { block := t4, off := 0 })), (5, pointer (some { block := out, off := 0 })), (6, int IntKind.i64 carry),
 (7, int IntKind.i64 i)]) h K
def L_ref01_Add_1 (a : Nat) (b : Nat) (t4 : Nat) (out : Nat) (carry : Int) (i : Int) (h : Heap) (K : Value → Heap → Prop) : Prop :=
 LoopAt Try.prog Try.f73 73 (loopK Try.f73 1) (sp 85 [(2, pointer (some { block := a, off := 0 })), (3, pointer (some { block := b, off := 0 })), (4, pointer (some { block := t4, off := 0 })), (5, pointer (some { block := out, off := 0 })), (6, int IntKind.i64 carry),
 (8, int IntKind.i64 i)]) h K
def L_ref01_Add_0T (a : Nat) (b : Nat) (t4 : Nat) (out : Nat) (carry : Int) (i : Int) (h : Heap) (K : Value → Heap → Prop) : Prop :=
 ∃ (a_1 : Option Addr),
 ∃ (n : Nat),
 ∃ (m : Nat),
 Heap.cell h a 1 = some (slice a_1 n m) ∧
 ∃ (a_2 : Option Addr),
 ∃ (n_1 : Nat),
 ∃ (m : Nat),
 Heap.cell h b 1 = some (slice a_2 n_1 m) ∧
 Br (decide (i < IntKind.wrap IntKind.i64 ((if (↑n_1 : Int) > (↑n : Int) then (↑n_1 : Int) else (↑n : Int)) + 1)))
 (∃ (b_1 : Bool),
 Heap.cell h a 0 = some (Value.bool b_1) ∧
 ∃ (a_3 : Option Addr),
 ∃ (n : Nat),
 ∃ (m : Nat),
 Heap.cell h a 1 = some (slice a_3 n m) ∧
 ∃ (b_2 : Bool),
 Heap.cell h b 0 = some (Value.bool b_2) ∧
 ∃ (a_4 : Option Addr),
 ∃ (n_2 : Nat),
 ∃ (m_1 : Nat),
 Heap.cell h b 1 = some (slice a_4 n_2 m_1) ∧
 CallA Try.prog fn_ref01_digit [agg #[Value.bool b_1, slice a_3 n m], int IntKind.i64 i] h fun (v : Value) (h_1 : Heap) =>
 ∃ (n : Int),
 v = int IntKind.i64 n ∧
 (Heap.le h h_1 ∨ Keeps [b] h h_1) ∧
 CallA Try.prog fn_ref01_digit [agg #[Value.bool b_2, slice a_4 n_2 m_1], int IntKind.i64 i] h_1 fun (v : Value) (h : Heap) =>
 ∃ (n_3 : Int),
 v = int IntKind.i64 n_3 ∧
 ∃ (a_5 : Option Addr),
 ∃ (n_4 : Nat),
 ∃ (m : Nat),
 Heap.cell h out 1 = some (slice a_5 n_4 m) ∧
 newB h [int IntKind.i64 (Int.tmod (IntKind.wrap IntKind.i64 (IntKind.wrap IntKind.i64 (carry + n) + n_3)) 10000)] 3 fun (r : Nat) (h : Heap) =>
 AppA [int IntKind.i64 0] 3 h a_5 n_4 m 1 (some { block := r, off := 0 }) fun (ap : Option Addr) (cp : Nat) (h : Heap) =>
 Heap.canSt h out 1 1 ∧
 L_ref01_Add_0 a b t4 out (IntKind.wrap IntKind.i64 (Int.tdiv (IntKind.wrap IntKind.i64 (IntKind.wrap IntKind.i64 (carry + n) + n_3)) 10000))
 (IntKind.wrap IntKind.i64 (i + 1)) (Heap.setN h out 1 [slice ap (n_4 + 1) cp]) K)
 (∃ (b : Bool),
 Heap.cell h out 0 = some (Value.bool b) ∧
 ∃ (a : Option Addr),
 ∃ (n : Nat),
 ∃ (m : Nat),
 Heap.cell h out 1 = some (slice a n m) ∧
 CallA Try.prog fn_ref01_trim [agg #[Value.bool b, slice a n m]] h fun (v : Value) (h : Heap) =>
 ∃ (b : Bool),
 ∃ (a : Option Addr),
 ∃ (n : Nat),
 ∃ (m : Nat),
 v = agg #[Value.bool b, slice a n m] ∧
 Heap.canSt h t4 0 2 ∧
 ∃ (b_1 : Bool),
 Heap.cell (Heap.setN h t4 0 [Value.bool b, slice a n m]) t4 0 = some (Value.bool b_1) ∧
 ∃ (a_3 : Option Addr),
 ∃ (n_2 : Nat),
 ∃ (m_1 : Nat),
 Heap.cell (Heap.setN h t4 0 [Value.bool b, slice a n m]) t4 1 = some (slice a_3 n_2 m_1) ∧
 Ret (Heap.setN h t4 0 [Value.bool b, slice a n m]) K (agg #[Value.bool b_1, slice a_3 n_2 m_1]))
theorem L_ref01_Add_0r (a : Nat) (b : Nat) (t4 : Nat) (out : Nat) (carry : Int) (i : Int) (h : Heap) (K : Value → Heap → Prop) (k : L_ref01_Add_0T a b t4 out carry i h K) : L_ref01_Add_0 a b t4 out carry i h K :=
 LoopAt.of_ev (cs := []) Try.func73 mixed (fun junk => by kernel_rfl) k
def L_ref01_Add_1T (a : Nat) (b : Nat) (t4 : Nat) (out : Nat) (carry : Int) (i : Int) (h : Heap) (K : Value → Heap → Prop) : Prop :=
 ∃ (a_1 : Option Addr),
 ∃ (n : Nat),
 ∃ (m : Nat),
 Heap.cell h a 1 = some (slice a_1 n m) ∧
 Br (decide (i < (↑n : Int)))
 (∃ (b_1 : Bool),
 Heap.cell h a 0 = some (Value.bool b_1) ∧
 ∃ (a_2 : Option Addr),
 ∃ (n : Nat),
 ∃ (m : Nat),
 Heap.cell h a 1 = some (slice a_2 n m) ∧
 ∃ (b_2 : Bool),
 Heap.cell h b 0 = some (Value.bool b_2) ∧
 ∃ (a_3 : Option Addr),
 ∃ (n_1 : Nat),
 ∃ (m_1 : Nat),
 Heap.cell h b 1 = some (slice a_3 n_1 m_1) ∧
 CallA Try.prog fn_ref01_digit [agg #[Value.bool b_1, slice a_2 n m], int IntKind.i64 i] h fun (v : Value) (h_1 : Heap) =>
 ∃ (n : Int),
 v = int IntKind.i64 n ∧
 (Heap.le h h_1 ∨ Keeps [b] h h_1) ∧
 CallA Try.prog fn_ref01_digit [agg #[Value.bool b_2, slice a_3 n_1 m_1], int IntKind.i64 i] h_1 fun (v : Value) (h : Heap) =>
 ∃ (n_2 : Int),
 v = int IntKind.i64 n_2 ∧
 Br (decide (IntKind.wrap IntKind.i64 (IntKind.wrap IntKind.i64 (n - n_2) - carry) < 0))
 (∃ (a_4 : Option Addr),
 ∃ (n_3 : Nat),
 ∃ (m : Nat),
 Heap.cell h out 1 = some (slice a_4 n_3 m) ∧
 newB h [int IntKind.i64 (IntKind.wrap IntKind.i64 (IntKind.wrap IntKind.i64 (IntKind.wrap IntKind.i64 (n - n_2) - carry) + 10000))] 3 fun (r : Nat) (h : Heap) =>
 AppA [int IntKind.i64 0] 3 h a_4 n_3 m 1 (some { block := r, off := 0 }) fun (ap : Option Addr) (cp : Nat) (h : Heap) =>
 Heap.canSt h out 1 1 ∧ L_ref01_Add_1 a b t4 out 1 (IntKind.wrap IntKind.i64 (i + 1)) (Heap.setN h out 1 [slice ap (n_3 + 1) cp]) K)
 (∃ (a_4 : Option Addr),
 ∃ (n_3 : Nat),
 ∃ (m : Nat),
 Heap.cell h out 1 = some (slice a_4 n_3 m) ∧
 newB h [int IntKind.i64 (IntKind.wrap IntKind.i64 (IntKind.wrap IntKind.i64 (n - n_2) - carry))] 3 fun (r : Nat) (h : Heap) =>
 AppA [int IntKind.i64 0] 3 h a_4 n_3 m 1 (some { block := r, off := 0 }) fun (ap : Option Addr) (cp : Nat) (h : Heap) =>
 Heap.canSt h out 1 1 ∧ L_ref01_Add_1 a b t4 out 0 (IntKind.wrap IntKind.i64 (i + 1)) (Heap.setN h out 1 [slice ap (n_3 + 1) cp]) K))
 (∃ (b : Bool),
 Heap.cell h out 0 = some (Value.bool b) ∧
 ∃ (a : Option Addr),
 ∃ (n : Nat),
 ∃ (m : Nat),
 Heap.cell h out 1 = some (slice a n m) ∧
 CallA Try.prog fn_ref01_trim [agg #[Value.bool b, slice a n m]] h fun (v : Value) (h : Heap) =>
 ∃ (b : Bool),
 ∃ (a : Option Addr),
 ∃ (n : Nat),
 ∃ (m : Nat),
 v = agg #[Value.bool b, slice a n m] ∧
 Heap.canSt h t4 0 2 ∧
 ∃ (b_1 : Bool),
 Heap.cell (Heap.setN h t4 0 [Value.bool b, slice a n m]) t4 0 = some (Value.bool b_1) ∧
 ∃ (a_2 : Option Addr),
 ∃ (n_1 : Nat),
 ∃ (m_1 : Nat),
 Heap.cell (Heap.setN h t4 0 [Value.bool b, slice a n m]) t4 1 = some (slice a_2 n_1 m_1) ∧
 Ret (Heap.setN h t4 0 [Value.bool b, slice a n m]) K (agg #[Value.bool b_1, slice a_2 n_1 m_1]))
theorem L_ref01_Add_1r (a : Nat) (b : Nat) (t4 : Nat) (out : Nat) (carry : Int) (i : Int) (h : Heap) (K : Value → Heap → Prop) (k : L_ref01_Add_1T a b t4 out carry i h K) : L_ref01_Add_1 a b t4 out carry i h K :=
 LoopAt.of_ev (cs := []) Try.func73 mixed (fun junk => by kernel_rfl) k
def F_ref01_AddT (a_0 : Bool) (a_1 : Option Addr) (a_1n : Nat) (a_1c : Nat) (b_0 : Bool) (b_1 : Option Addr) (b_1n : Nat) (b_1c : Nat) (h : Heap) (K : Value → Heap → Prop) : Prop :=
 newB h [Value.bool a_0, slice a_1 a_1n a_1c] 118 fun (r : Nat) (h : Heap) =>
 newB h [Value.bool b_0, slice b_1 b_1n b_1c] 118 fun (r_1 : Nat) (h : Heap) =>
 newB h [Value.bool false, slice none 0 0] 118 fun (r_2 : Nat) (h : Heap) =>
 ∃ (b : Bool),
 Heap.cell h r 0 = some (Value.bool b) ∧
 newB h [Value.bool false, slice none 0 0] 118 fun (r_3 : Nat) (h : Heap) =>
 Heap.canSt h r_3 0 2 ∧
 ∃ (b_2 : Bool),
 Heap.cell (Heap.setN h r_3 0 [Value.bool b, slice none 0 0]) r 0 = some (Value.bool b_2) ∧
 ∃ (b_3 : Bool),
 Heap.cell (Heap.setN h r_3 0 [Value.bool b, slice none 0 0]) r_1 0 = some (Value.bool b_3) ∧
 Br (b_2 == b_3) (L_ref01_Add_0 r r_1 r_2 r_3 0 0 (Heap.setN h r_3 0 [Value.bool b, slice none 0 0]) K)
 (∃ (b_4 : Bool),
 Heap.cell (Heap.setN h r_3 0 [Value.bool b, slice none 0 0]) r 0 = some (Value.bool b_4) ∧
 ∃ (a : Option Addr),
 ∃ (n : Nat),
 ∃ (m : Nat),
 Heap.cell (Heap.setN h r_3 0 [Value.bool b, slice none 0 0]) r 1 = some (slice a n m) ∧
 ∃ (b_5 : Bool),
 Heap.cell (Heap.setN h r_3 0 [Value.bool b, slice none 0 0]) r_1 0 = some (Value.bool b_5) ∧
 ∃ (a_2 : Option Addr),
 ∃ (n_1 : Nat),
 ∃ (m_1 : Nat),
 Heap.cell (Heap.setN h r_3 0 [Value.bool b, slice none 0 0]) r_1 1 = some (slice a_2 n_1 m_1) ∧
 CallA Try.prog fn_ref01_larger [agg #[Value.bool b_4, slice a n m], agg #[Value.bool b_5, slice a_2 n_1 m_1]] (Heap.setN h r_3 0 [Value.bool b, slice none 0 0])
 fun (v : Value) (h : Heap) =>
 ∃ (n : Int),
 v = int IntKind.i64 n ∧
 Br (decide (n < 0))
 (∃ (b : Bool),
 Heap.cell h r_1 0 = some (Value.bool b) ∧
 ∃ (a : Option Addr),
 ∃ (n : Nat),
 ∃ (m : Nat),
 Heap.cell h r_1 1 = some (slice a n m) ∧
 ∃ (b_6 : Bool),
 Heap.cell h r 0 = some (Value.bool b_6) ∧
 ∃ (a_3 : Option Addr),
 ∃ (n_2 : Nat),
 ∃ (m_2 : Nat),
 Heap.cell h r 1 = some (slice a_3 n_2 m_2) ∧
 CallA Try.prog fn_ref01_Add [agg #[Value.bool b, slice a n m], agg #[Value.bool b_6, slice a_3 n_2 m_2]] h fun (v : Value) (h : Heap) =>
 ∃ (b : Bool),
 ∃ (a : Option Addr),
 ∃ (n : Nat),
 ∃ (m : Nat),
 v = agg #[Value.bool b, slice a n m] ∧
 Heap.canSt h r_2 0 2 ∧
 ∃ (b_7 : Bool),
 Heap.cell (Heap.setN h r_2 0 [Value.bool b, slice a n m]) r_2 0 = some (Value.bool b_7) ∧
 ∃ (a_4 : Option Addr),
 ∃ (n_3 : Nat),
 ∃ (m_3 : Nat),
 Heap.cell (Heap.setN h r_2 0 [Value.bool b, slice a n m]) r_2 1 = some (slice a_4 n_3 m_3) ∧
 Ret (Heap.setN h r_2 0 [Value.bool b, slice a n m]) K (agg #[Value.bool b_7, slice a_4 n_3 m_3]))
 (L_ref01_Add_1 r r_1 r_2 r_3 0 0 h K))
theorem F_ref01_Add (a_0 : Bool) (a_1 : Option Addr) (a_1n : Nat) (a_1c : Nat) (b_0 : Bool) (b_1 : Option Addr) (b_1n : Nat) (b_1c : Nat) (h : Heap) (K : Value → Heap → Prop) (k : F_ref01_AddT a_0 a_1 a_1n a_1c b_0 b_1 b_1n b_1c h K) : CallA Try.prog fn_ref01_Add [agg #[Value.bool a_0, slice a_1 a_1n a_1c], agg #[Value.bool b_0, slice b_1 b_1n b_1c]] h K :=
 CallA.of_ev (cs := []) Try.func73 (by kernel_rfl) (fun _ _ => Try.call73 _ _) mixed (by kernel_rfl) (by kernel_rfl) k
end Go.Proofs.Ytkcogdmddhkldaa
