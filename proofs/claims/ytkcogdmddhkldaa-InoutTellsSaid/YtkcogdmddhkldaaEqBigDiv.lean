import Derived.Test.YtkcogdmddhkldaaEqN
namespace Go.Proofs.Ytkcogdmddhkldaa
open Go Go.Sy Go.Value
set_option linter.unusedVariables false
set_option maxRecDepth 100000
def L_ref01_Div_0 (up : Bool) (a : Nat) (b : Nat) (t6 : Nat) (rest : Nat) (q : Nat) (i : Int) (h : Heap) (K : Value → Heap → Prop) : Prop :=
 LoopAt Try.prog Try.f125 125 (loopK Try.f125 0) (sp 110 [(2, Value.bool up), (3, pointer (some { block := a, off := 0 })), (4, pointer (some { block := b, off := 0 })), (6, pointer (some { block := t6, off := 0 })), (7, pointer (some { block := rest, off := 0 })),
 (8, pointer (some { block := q, off := 0 })), (9, int IntKind.i64 i)]) h K
def L_ref01_Div_1 (up : Bool) (a : Nat) (b : Nat) (t6 : Nat) (rest : Nat) (q : Nat) (i : Int) (h : Heap) (K : Value → Heap → Prop) : Prop :=
 LoopAt Try.prog Try.f125 125 (loopK Try.f125 1) (sp 110 [(2, Value.bool up), (3, pointer (some { block := a, off := 0 })), (4, pointer (some { block := b, off := 0 })), (6, pointer (some { block := t6, off := 0 })), (7, pointer (some { block := rest, off := 0 })),
 (8, pointer (some { block := q, off := 0 })), (9, int IntKind.i64 i)]) h K
def L_ref01_Div_2 (up : Bool) (a : Nat) (b : Nat) (t6 : Nat) (rest : Nat) (q : Nat) (i : Int) (low : Int) (high : Int) (h : Heap) (K : Value → Heap → Prop) : Prop :=
 LoopAt Try.prog Try.f125 125 (loopK Try.f125 2) (sp 110 [(2, Value.bool up), (3, pointer (some { block := a, off := 0 })), (4, pointer (some { block := b, off := 0 })), (6, pointer (some { block := t6, off := 0 })), (7, pointer (some { block := rest, off := 0 })),
 (8, pointer (some { block := q, off := 0 })), (9, int IntKind.i64 i), (10, int IntKind.i64 low), (11, int IntKind.i64 high)]) h K
def L_ref01_Div_0T (up : Bool) (a : Nat) (b : Nat) (t6 : Nat) (rest : Nat) (q : Nat) (i : Int) (h : Heap) (K : Value → Heap → Prop) : Prop :=
 Br (decide (i ≥ 0))
 (∃ (a_1 : Option Addr),
 ∃ (n : Nat),
 ∃ (m : Nat),
 Heap.cell h a 1 = some (slice a_1 n m) ∧
 0 ≤ i ∧
 i < (↑n : Int) ∧
 withAddr a_1 fun (b_1 o : Nat) =>
 ∃ (n : Int),
 Heap.cell h b_1 (o + Int.toNat i) = some (int IntKind.i64 n) ∧
 ∃ (a_2 : Option Addr),
 ∃ (n_1 : Nat),
 ∃ (m : Nat),
 Heap.cell h rest 1 = some (slice a_2 n_1 m) ∧
 newB h [int IntKind.i64 n] 3 fun (r : Nat) (h : Heap) =>
 AppA [int IntKind.i64 0] 3 h (some { block := r, off := 0 }) 1 1 n_1 a_2 fun (ap : Option Addr) (cp : Nat) (h : Heap) =>
 CallA Try.prog fn_ref01_trim [agg #[Value.bool false, slice ap (1 + n_1) cp]] h fun (v : Value) (h : Heap) =>
 ∃ (b_2 : Bool),
 ∃ (a_3 : Option Addr),
 ∃ (n : Nat), ∃ (m : Nat), v = agg #[Value.bool b_2, slice a_3 n m] ∧ Heap.canSt h rest 0 2 ∧ L_ref01_Div_1 up a b t6 rest q i (Heap.setN h rest 0 [Value.bool b_2, slice a_3 n m]) K)
 (∃ (b : Bool),
 Heap.cell h q 0 = some (Value.bool b) ∧
 ∃ (a_1 : Option Addr),
 ∃ (n : Nat),
 ∃ (m : Nat),
 Heap.cell h q 1 = some (slice a_1 n m) ∧
 CallA Try.prog fn_ref01_trim [agg #[Value.bool b, slice a_1 n m]] h fun (v : Value) (h : Heap) =>
 ∃ (b : Bool),
 ∃ (a_2 : Option Addr),
 ∃ (n : Nat),
 ∃ (m : Nat),
 v = agg #[Value.bool b, slice a_2 n m] ∧
 Heap.canSt h q 0 2 ∧
 ∃ (a_3 : Option Addr),
 ∃ (n_1 : Nat),
 ∃ (m_1 : Nat),
 Heap.cell (Heap.setN h q 0 [Value.bool b, slice a_2 n m]) rest 1 = some (slice a_3 n_1 m_1) ∧
 Br (decide ((↑n_1 : Int) > 0))
 (∃ (b_1 : Bool),
 Heap.cell (Heap.setN h q 0 [Value.bool b, slice a_2 n m]) a 0 = some (Value.bool b_1) ∧
 Br (!b_1)
 (Br up
 (∃ (b_2 : Bool),
 Heap.cell (Heap.setN h q 0 [Value.bool b, slice a_2 n m]) q 0 = some (Value.bool b_2) ∧
 ∃ (a : Option Addr),
 ∃ (n_2 : Nat),
 ∃ (m_2 : Nat),
 Heap.cell (Heap.setN h q 0 [Value.bool b, slice a_2 n m]) q 1 = some (slice a n_2 m_2) ∧
 CallA Try.prog fn_ref01_Of [int IntKind.i64 1] (Heap.setN h q 0 [Value.bool b, slice a_2 n m]) fun (v : Value) (h_1 : Heap) =>
 ∃ (b_3 : Bool),
 ∃ (a_4 : Option Addr),
 ∃ (n_3 : Nat),
 ∃ (m_3 : Nat),
 v = agg #[Value.bool b_3, slice a_4 n_3 m_3] ∧
 (Heap.le (Heap.setN h q 0 [Value.bool b, slice a_2 n m]) h_1 ∨ Keeps [q] (Heap.setN h q 0 [Value.bool b, slice a_2 n m]) h_1) ∧
 CallA Try.prog fn_ref01_Add [agg #[Value.bool b_2, slice a n_2 m_2], agg #[Value.bool b_3, slice a_4 n_3 m_3]] h_1 fun (v : Value) (h : Heap) =>
 ∃ (b : Bool),
 ∃ (a : Option Addr),
 ∃ (n : Nat),
 ∃ (m : Nat),
 v = agg #[Value.bool b, slice a n m] ∧
 Heap.canSt h t6 0 2 ∧
 ∃ (b_4 : Bool),
 Heap.cell (Heap.setN h t6 0 [Value.bool b, slice a n m]) t6 0 = some (Value.bool b_4) ∧
 ∃ (a_5 : Option Addr),
 ∃ (n_4 : Nat),
 ∃ (m_4 : Nat),
 Heap.cell (Heap.setN h t6 0 [Value.bool b, slice a n m]) t6 1 = some (slice a_5 n_4 m_4) ∧
 Ret (Heap.setN h t6 0 [Value.bool b, slice a n m]) K (agg #[Value.bool b_4, slice a_5 n_4 m_4]))
 (∃ (a_4 : Option Addr),
 ∃ (n_2 : Nat),
 ∃ (m_2 : Nat),
 Heap.cell (Heap.setN h q 0 [Value.bool b, slice a_2 n m]) rest 1 = some (slice a_4 n_2 m_2) ∧
 Br (decide ((↑n_2 : Int) > 0))
 (∃ (b_2 : Bool),
 Heap.cell (Heap.setN h q 0 [Value.bool b, slice a_2 n m]) a 0 = some (Value.bool b_2) ∧
 Br b_2
 (Br (!up)
 (∃ (b_3 : Bool),
 Heap.cell (Heap.setN h q 0 [Value.bool b, slice a_2 n m]) q 0 = some (Value.bool b_3) ∧
 ∃ (a : Option Addr),
 ∃ (n_3 : Nat),
 ∃ (m_3 : Nat),
 Heap.cell (Heap.setN h q 0 [Value.bool b, slice a_2 n m]) q 1 = some (slice a n_3 m_3) ∧
 CallA Try.prog fn_ref01_Of [int IntKind.i64 (-1)] (Heap.setN h q 0 [Value.bool b, slice a_2 n m]) fun (v : Value) (h_1 : Heap) =>
 ∃ (b_4 : Bool),
 ∃ (a_5 : Option Addr),
 ∃ (n_4 : Nat),
 ∃ (m_4 : Nat),
 v = agg #[Value.bool b_4, slice a_5 n_4 m_4] ∧
 (Heap.le (Heap.setN h q 0 [Value.bool b, slice a_2 n m]) h_1 ∨ Keeps [q] (Heap.setN h q 0 [Value.bool b, slice a_2 n m]) h_1) ∧
 CallA Try.prog fn_ref01_Add [agg #[Value.bool b_3, slice a n_3 m_3], agg #[Value.bool b_4, slice a_5 n_4 m_4]] h_1
 fun (v : Value) (h : Heap) =>
 ∃ (b : Bool),
 ∃ (a : Option Addr),
 ∃ (n : Nat),
 ∃ (m : Nat),
 v = agg #[Value.bool b, slice a n m] ∧
 Heap.canSt h t6 0 2 ∧
 ∃ (b_5 : Bool),
 Heap.cell (Heap.setN h t6 0 [Value.bool b, slice a n m]) t6 0 = some (Value.bool b_5) ∧
 ∃ (a_6 : Option Addr),
 ∃ (n_5 : Nat),
 ∃ (m_5 : Nat),
 Heap.cell (Heap.setN h t6 0 [Value.bool b, slice a n m]) t6 1 = some (slice a_6 n_5 m_5) ∧
 Ret (Heap.setN h t6 0 [Value.bool b, slice a n m]) K (agg #[Value.bool b_5, slice a_6 n_5 m_5]))
 (∃ (b_3 : Bool),
 Heap.cell (Heap.setN h q 0 [Value.bool b, slice a_2 n m]) q 0 = some (Value.bool b_3) ∧
 ∃ (a : Option Addr),
 ∃ (n_3 : Nat),
 ∃ (m_3 : Nat),
 Heap.cell (Heap.setN h q 0 [Value.bool b, slice a_2 n m]) q 1 = some (slice a n_3 m_3) ∧
 Heap.canSt (Heap.setN h q 0 [Value.bool b, slice a_2 n m]) t6 0 2 ∧
 ∃ (b_4 : Bool),
 Heap.cell (Heap.setN (Heap.setN h q 0 [Value.bool b, slice a_2 n m]) t6 0 [Value.bool b_3, slice a n_3 m_3]) t6 0 = some (Value.bool b_4) ∧
 ∃ (a_5 : Option Addr),
 ∃ (n_4 : Nat),
 ∃ (m_4 : Nat),
 Heap.cell (Heap.setN (Heap.setN h q 0 [Value.bool b, slice a_2 n m]) t6 0 [Value.bool b_3, slice a n_3 m_3]) t6 1 =
 some (slice a_5 n_4 m_4) ∧
 Ret (Heap.setN (Heap.setN h q 0 [Value.bool b, slice a_2 n m]) t6 0 [Value.bool b_3, slice a n_3 m_3]) K
 (agg #[Value.bool b_4, slice a_5 n_4 m_4])))
 (∃ (b_3 : Bool),
 Heap.cell (Heap.setN h q 0 [Value.bool b, slice a_2 n m]) q 0 = some (Value.bool b_3) ∧
 ∃ (a : Option Addr),
 ∃ (n_3 : Nat),
 ∃ (m_3 : Nat),
 Heap.cell (Heap.setN h q 0 [Value.bool b, slice a_2 n m]) q 1 = some (slice a n_3 m_3) ∧
 Heap.canSt (Heap.setN h q 0 [Value.bool b, slice a_2 n m]) t6 0 2 ∧
 ∃ (b_4 : Bool),
 Heap.cell (Heap.setN (Heap.setN h q 0 [Value.bool b, slice a_2 n m]) t6 0 [Value.bool b_3, slice a n_3 m_3]) t6 0 = some (Value.bool b_4) ∧
 ∃ (a_5 : Option Addr),
 ∃ (n_4 : Nat),
 ∃ (m_4 : Nat),
 Heap.cell (Heap.setN (Heap.setN h q 0 [Value.bool b, slice a_2 n m]) t6 0 [Value.bool b_3, slice a n_3 m_3]) t6 1 =
 some (slice a_5 n_4 m_4) ∧
 Ret (Heap.setN (Heap.setN h q 0 [Value.bool b, slice a_2 n m]) t6 0 [Value.bool b_3, slice a n_3 m_3]) K
 (agg #[Value.bool b_4, slice a_5 n_4 m_4])))
 (∃ (b_2 : Bool),
 Heap.cell (Heap.setN h q 0 [Value.bool b, slice a_2 n m]) q 0 = some (Value.bool b_2) ∧
 ∃ (a : Option Addr),
 ∃ (n_3 : Nat),
 ∃ (m_3 : Nat),
 Heap.cell (Heap.setN h q 0 [Value.bool b, slice a_2 n m]) q 1 = some (slice a n_3 m_3) ∧
 Heap.canSt (Heap.setN h q 0 [Value.bool b, slice a_2 n m]) t6 0 2 ∧
 ∃ (b_3 : Bool),
 Heap.cell (Heap.setN (Heap.setN h q 0 [Value.bool b, slice a_2 n m]) t6 0 [Value.bool b_2, slice a n_3 m_3]) t6 0 = some (Value.bool b_3) ∧
 ∃ (a_5 : Option Addr),
 ∃ (n_4 : Nat),
 ∃ (m_4 : Nat),
 Heap.cell (Heap.setN (Heap.setN h q 0 [Value.bool b, slice a_2 n m]) t6 0 [Value.bool b_2, slice a n_3 m_3]) t6 1 =
 some (slice a_5 n_4 m_4) ∧
 Ret (Heap.setN (Heap.setN h q 0 [Value.bool b, slice a_2 n m]) t6 0 [Value.bool b_2, slice a n_3 m_3]) K
 (agg #[Value.bool b_3, slice a_5 n_4 m_4]))))
 (∃ (a_4 : Option Addr),
 ∃ (n_2 : Nat),
 ∃ (m_2 : Nat),
 Heap.cell (Heap.setN h q 0 [Value.bool b, slice a_2 n m]) rest 1 = some (slice a_4 n_2 m_2) ∧
 Br (decide ((↑n_2 : Int) > 0))
 (∃ (b_2 : Bool),
 Heap.cell (Heap.setN h q 0 [Value.bool b, slice a_2 n m]) a 0 = some (Value.bool b_2) ∧
 Br b_2
 (Br (!up)
 (∃ (b_3 : Bool),
 Heap.cell (Heap.setN h q 0 [Value.bool b, slice a_2 n m]) q 0 = some (Value.bool b_3) ∧
 ∃ (a : Option Addr),
 ∃ (n_3 : Nat),
 ∃ (m_3 : Nat),
 Heap.cell (Heap.setN h q 0 [Value.bool b, slice a_2 n m]) q 1 = some (slice a n_3 m_3) ∧
 CallA Try.prog fn_ref01_Of [int IntKind.i64 (-1)] (Heap.setN h q 0 [Value.bool b, slice a_2 n m]) fun (v : Value) (h_1 : Heap) =>
 ∃ (b_4 : Bool),
 ∃ (a_5 : Option Addr),
 ∃ (n_4 : Nat),
 ∃ (m_4 : Nat),
 v = agg #[Value.bool b_4, slice a_5 n_4 m_4] ∧
 (Heap.le (Heap.setN h q 0 [Value.bool b, slice a_2 n m]) h_1 ∨ Keeps [q] (Heap.setN h q 0 [Value.bool b, slice a_2 n m]) h_1) ∧
 CallA Try.prog fn_ref01_Add [agg #[Value.bool b_3, slice a n_3 m_3], agg #[Value.bool b_4, slice a_5 n_4 m_4]] h_1
 fun (v : Value) (h : Heap) =>
 ∃ (b : Bool),
 ∃ (a : Option Addr),
 ∃ (n : Nat),
 ∃ (m : Nat),
 v = agg #[Value.bool b, slice a n m] ∧
 Heap.canSt h t6 0 2 ∧
 ∃ (b_5 : Bool),
 Heap.cell (Heap.setN h t6 0 [Value.bool b, slice a n m]) t6 0 = some (Value.bool b_5) ∧
 ∃ (a_6 : Option Addr),
 ∃ (n_5 : Nat),
 ∃ (m_5 : Nat),
 Heap.cell (Heap.setN h t6 0 [Value.bool b, slice a n m]) t6 1 = some (slice a_6 n_5 m_5) ∧
 Ret (Heap.setN h t6 0 [Value.bool b, slice a n m]) K (agg #[Value.bool b_5, slice a_6 n_5 m_5]))
 (∃ (b_3 : Bool),
 Heap.cell (Heap.setN h q 0 [Value.bool b, slice a_2 n m]) q 0 = some (Value.bool b_3) ∧
 ∃ (a : Option Addr),
 ∃ (n_3 : Nat),
 ∃ (m_3 : Nat),
 Heap.cell (Heap.setN h q 0 [Value.bool b, slice a_2 n m]) q 1 = some (slice a n_3 m_3) ∧
 Heap.canSt (Heap.setN h q 0 [Value.bool b, slice a_2 n m]) t6 0 2 ∧
 ∃ (b_4 : Bool),
 Heap.cell (Heap.setN (Heap.setN h q 0 [Value.bool b, slice a_2 n m]) t6 0 [Value.bool b_3, slice a n_3 m_3]) t6 0 = some (Value.bool b_4) ∧
 ∃ (a_5 : Option Addr),
 ∃ (n_4 : Nat),
 ∃ (m_4 : Nat),
 Heap.cell (Heap.setN (Heap.setN h q 0 [Value.bool b, slice a_2 n m]) t6 0 [Value.bool b_3, slice a n_3 m_3]) t6 1 =
 some (slice a_5 n_4 m_4) ∧
 Ret (Heap.setN (Heap.setN h q 0 [Value.bool b, slice a_2 n m]) t6 0 [Value.bool b_3, slice a n_3 m_3]) K
 (agg #[Value.bool b_4, slice a_5 n_4 m_4])))
 (∃ (b_3 : Bool),
 Heap.cell (Heap.setN h q 0 [Value.bool b, slice a_2 n m]) q 0 = some (Value.bool b_3) ∧
 ∃ (a : Option Addr),
 ∃ (n_3 : Nat),
 ∃ (m_3 : Nat),
 Heap.cell (Heap.setN h q 0 [Value.bool b, slice a_2 n m]) q 1 = some (slice a n_3 m_3) ∧
 Heap.canSt (Heap.setN h q 0 [Value.bool b, slice a_2 n m]) t6 0 2 ∧
 ∃ (b_4 : Bool),
 Heap.cell (Heap.setN (Heap.setN h q 0 [Value.bool b, slice a_2 n m]) t6 0 [Value.bool b_3, slice a n_3 m_3]) t6 0 = some (Value.bool b_4) ∧
 ∃ (a_5 : Option Addr),
 ∃ (n_4 : Nat),
 ∃ (m_4 : Nat),
 Heap.cell (Heap.setN (Heap.setN h q 0 [Value.bool b, slice a_2 n m]) t6 0 [Value.bool b_3, slice a n_3 m_3]) t6 1 =
 some (slice a_5 n_4 m_4) ∧
 Ret (Heap.setN (Heap.setN h q 0 [Value.bool b, slice a_2 n m]) t6 0 [Value.bool b_3, slice a n_3 m_3]) K
 (agg #[Value.bool b_4, slice a_5 n_4 m_4])))
 (∃ (b_2 : Bool),
 Heap.cell (Heap.setN h q 0 [Value.bool b, slice a_2 n m]) q 0 = some (Value.bool b_2) ∧
 ∃ (a : Option Addr),
 ∃ (n_3 : Nat),
 ∃ (m_3 : Nat),
 Heap.cell (Heap.setN h q 0 [Value.bool b, slice a_2 n m]) q 1 = some (slice a n_3 m_3) ∧
 Heap.canSt (Heap.setN h q 0 [Value.bool b, slice a_2 n m]) t6 0 2 ∧
 ∃ (b_3 : Bool),
 Heap.cell (Heap.setN (Heap.setN h q 0 [Value.bool b, slice a_2 n m]) t6 0 [Value.bool b_2, slice a n_3 m_3]) t6 0 = some (Value.bool b_3) ∧
 ∃ (a_5 : Option Addr),
 ∃ (n_4 : Nat),
 ∃ (m_4 : Nat),
 Heap.cell (Heap.setN (Heap.setN h q 0 [Value.bool b, slice a_2 n m]) t6 0 [Value.bool b_2, slice a n_3 m_3]) t6 1 = some (slice a_5 n_4 m_4) ∧
 Ret (Heap.setN (Heap.setN h q 0 [Value.bool b, slice a_2 n m]) t6 0 [Value.bool b_2, slice a n_3 m_3]) K
 (agg #[Value.bool b_3, slice a_5 n_4 m_4]))))
 (∃ (a_4 : Option Addr),
 ∃ (n_2 : Nat),
 ∃ (m_2 : Nat),
 Heap.cell (Heap.setN h q 0 [Value.bool b, slice a_2 n m]) rest 1 = some (slice a_4 n_2 m_2) ∧
 Br (decide ((↑n_2 : Int) > 0))
 (∃ (b_1 : Bool),
 Heap.cell (Heap.setN h q 0 [Value.bool b, slice a_2 n m]) a 0 = some (Value.bool b_1) ∧
 Br b_1
 (Br (!up)
 (∃ (b_2 : Bool),
 Heap.cell (Heap.setN h q 0 [Value.bool b, slice a_2 n m]) q 0 = some (Value.bool b_2) ∧
 ∃ (a : Option Addr),
 ∃ (n_3 : Nat),
 ∃ (m_3 : Nat),
 Heap.cell (Heap.setN h q 0 [Value.bool b, slice a_2 n m]) q 1 = some (slice a n_3 m_3) ∧
 CallA Try.prog fn_ref01_Of [int IntKind.i64 (-1)] (Heap.setN h q 0 [Value.bool b, slice a_2 n m]) fun (v : Value) (h_1 : Heap) =>
 ∃ (b_3 : Bool),
 ∃ (a_5 : Option Addr),
 ∃ (n_4 : Nat),
 ∃ (m_4 : Nat),
 v = agg #[Value.bool b_3, slice a_5 n_4 m_4] ∧
 (Heap.le (Heap.setN h q 0 [Value.bool b, slice a_2 n m]) h_1 ∨ Keeps [q] (Heap.setN h q 0 [Value.bool b, slice a_2 n m]) h_1) ∧
 CallA Try.prog fn_ref01_Add [agg #[Value.bool b_2, slice a n_3 m_3], agg #[Value.bool b_3, slice a_5 n_4 m_4]] h_1
 fun (v : Value) (h : Heap) =>
 ∃ (b : Bool),
 ∃ (a : Option Addr),
 ∃ (n : Nat),
 ∃ (m : Nat),
 v = agg #[Value.bool b, slice a n m] ∧
 Heap.canSt h t6 0 2 ∧
 ∃ (b_4 : Bool),
 Heap.cell (Heap.setN h t6 0 [Value.bool b, slice a n m]) t6 0 = some (Value.bool b_4) ∧
 ∃ (a_6 : Option Addr),
 ∃ (n_5 : Nat),
 ∃ (m_5 : Nat),
 Heap.cell (Heap.setN h t6 0 [Value.bool b, slice a n m]) t6 1 = some (slice a_6 n_5 m_5) ∧
 Ret (Heap.setN h t6 0 [Value.bool b, slice a n m]) K (agg #[Value.bool b_4, slice a_6 n_5 m_5]))
 (∃ (b_2 : Bool),
 Heap.cell (Heap.setN h q 0 [Value.bool b, slice a_2 n m]) q 0 = some (Value.bool b_2) ∧
 ∃ (a : Option Addr),
 ∃ (n_3 : Nat),
 ∃ (m_3 : Nat),
 Heap.cell (Heap.setN h q 0 [Value.bool b, slice a_2 n m]) q 1 = some (slice a n_3 m_3) ∧
 Heap.canSt (Heap.setN h q 0 [Value.bool b, slice a_2 n m]) t6 0 2 ∧
 ∃ (b_3 : Bool),
 Heap.cell (Heap.setN (Heap.setN h q 0 [Value.bool b, slice a_2 n m]) t6 0 [Value.bool b_2, slice a n_3 m_3]) t6 0 = some (Value.bool b_3) ∧
 ∃ (a_5 : Option Addr),
 ∃ (n_4 : Nat),
 ∃ (m_4 : Nat),
 Heap.cell (Heap.setN (Heap.setN h q 0 [Value.bool b, slice a_2 n m]) t6 0 [Value.bool b_2, slice a n_3 m_3]) t6 1 =
 some (slice a_5 n_4 m_4) ∧
 Ret (Heap.setN (Heap.setN h q 0 [Value.bool b, slice a_2 n m]) t6 0 [Value.bool b_2, slice a n_3 m_3]) K
 (agg #[Value.bool b_3, slice a_5 n_4 m_4])))
 (∃ (b_2 : Bool),
 Heap.cell (Heap.setN h q 0 [Value.bool b, slice a_2 n m]) q 0 = some (Value.bool b_2) ∧
 ∃ (a : Option Addr),
 ∃ (n_3 : Nat),
 ∃ (m_3 : Nat),
 Heap.cell (Heap.setN h q 0 [Value.bool b, slice a_2 n m]) q 1 = some (slice a n_3 m_3) ∧
 Heap.canSt (Heap.setN h q 0 [Value.bool b, slice a_2 n m]) t6 0 2 ∧
 ∃ (b_3 : Bool),
 Heap.cell (Heap.setN (Heap.setN h q 0 [Value.bool b, slice a_2 n m]) t6 0 [Value.bool b_2, slice a n_3 m_3]) t6 0 = some (Value.bool b_3) ∧
 ∃ (a_5 : Option Addr),
 ∃ (n_4 : Nat),
 ∃ (m_4 : Nat),
 Heap.cell (Heap.setN (Heap.setN h q 0 [Value.bool b, slice a_2 n m]) t6 0 [Value.bool b_2, slice a n_3 m_3]) t6 1 = some (slice a_5 n_4 m_4) ∧
 Ret (Heap.setN (Heap.setN h q 0 [Value.bool b, slice a_2 n m]) t6 0 [Value.bool b_2, slice a n_3 m_3]) K
 (agg #[Value.bool b_3, slice a_5 n_4 m_4])))
 (∃ (b_1 : Bool),
 Heap.cell (Heap.setN h q 0 [Value.bool b, slice a_2 n m]) q 0 = some (Value.bool b_1) ∧
 ∃ (a : Option Addr),
 ∃ (n_3 : Nat),
 ∃ (m_3 : Nat),
 Heap.cell (Heap.setN h q 0 [Value.bool b, slice a_2 n m]) q 1 = some (slice a n_3 m_3) ∧
 Heap.canSt (Heap.setN h q 0 [Value.bool b, slice a_2 n m]) t6 0 2 ∧
 ∃ (b_2 : Bool),
 Heap.cell (Heap.setN (Heap.setN h q 0 [Value.bool b, slice a_2 n m]) t6 0 [Value.bool b_1, slice a n_3 m_3]) t6 0 = some (Value.bool b_2) ∧
 ∃ (a_5 : Option Addr),
 ∃ (n_4 : Nat),
 ∃ (m_4 : Nat),
 Heap.cell (Heap.setN (Heap.setN h q 0 [Value.bool b, slice a_2 n m]) t6 0 [Value.bool b_1, slice a n_3 m_3]) t6 1 = some (slice a_5 n_4 m_4) ∧
 Ret (Heap.setN (Heap.setN h q 0 [Value.bool b, slice a_2 n m]) t6 0 [Value.bool b_1, slice a n_3 m_3]) K
 (agg #[Value.bool b_2, slice a_5 n_4 m_4]))))
theorem L_ref01_Div_0r (up : Bool) (a : Nat) (b : Nat) (t6 : Nat) (rest : Nat) (q : Nat) (i : Int) (h : Heap) (K : Value → Heap → Prop) (k : L_ref01_Div_0T up a b t6 rest q i h K) : L_ref01_Div_0 up a b t6 rest q i h K :=
 LoopAt.of_ev (cs := []) Try.func125 mixed (fun junk => by kernel_rfl) k
def L_ref01_Div_1T (up : Bool) (a : Nat) (b : Nat) (t6 : Nat) (rest : Nat) (q : Nat) (i : Int) (h : Heap) (K : Value → Heap → Prop) : Prop :=
 ∃ (b_1 : Bool),
 Heap.cell h rest 0 = some (Value.bool b_1) ∧
 ∃ (a_1 : Option Addr),
 ∃ (n : Nat),
 ∃ (m : Nat),
 Heap.cell h rest 1 = some (slice a_1 n m) ∧
 ∃ (b_2 : Bool),
 Heap.cell h b 0 = some (Value.bool b_2) ∧
 ∃ (a_2 : Option Addr),
 ∃ (n_1 : Nat),
 ∃ (m_1 : Nat),
 Heap.cell h b 1 = some (slice a_2 n_1 m_1) ∧
 CallA Try.prog fn_ref01_larger [agg #[Value.bool b_1, slice a_1 n m], agg #[Value.bool b_2, slice a_2 n_1 m_1]] h fun (v : Value) (h : Heap) =>
 ∃ (n : Int), v = int IntKind.i64 n ∧ Br (decide (n ≥ 0)) (L_ref01_Div_2 up a b t6 rest q i 1 10000 h K) (L_ref01_Div_0 up a b t6 rest q (IntKind.wrap IntKind.i64 (i - 1)) h K)
theorem L_ref01_Div_1r (up : Bool) (a : Nat) (b : Nat) (t6 : Nat) (rest : Nat) (q : Nat) (i : Int) (h : Heap) (K : Value → Heap → Prop) (k : L_ref01_Div_1T up a b t6 rest q i h K) : L_ref01_Div_1 up a b t6 rest q i h K :=
 LoopAt.of_ev (cs := []) Try.func125 mixed (fun junk => by kernel_rfl) k
def L_ref01_Div_2T (up : Bool) (a : Nat) (b : Nat) (t6 : Nat) (rest : Nat) (q : Nat) (i : Int) (low : Int) (high : Int) (h : Heap) (K : Value → Heap → Prop) : Prop :=
 Br (decide (IntKind.wrap IntKind.i64 (high - low) > 1))
 (∃ (a_1 : Option Addr),
 ∃ (n : Nat),
 ∃ (m : Nat),
 Heap.cell h b 1 = some (slice a_1 n m) ∧
 ∃ (b_1 : Bool),
 Heap.cell h rest 0 = some (Value.bool b_1) ∧
 ∃ (a_2 : Option Addr),
 ∃ (n_1 : Nat),
 ∃ (m_1 : Nat),
 Heap.cell h rest 1 = some (slice a_2 n_1 m_1) ∧
 CallA Try.prog fn_ref01_Of [int IntKind.i64 (IntKind.wrap IntKind.i64 (Int.tdiv (IntKind.wrap IntKind.i64 (low + high)) 2))] h fun (v : Value) (h_1 : Heap) =>
 ∃ (b_2 : Bool),
 ∃ (a_3 : Option Addr),
 ∃ (n_2 : Nat),
 ∃ (m_2 : Nat),
 v = agg #[Value.bool b_2, slice a_3 n_2 m_2] ∧
 (Heap.le h h_1 ∨ Keeps [b, rest] h h_1) ∧
 CallA Try.prog fn_ref01_Mul [agg #[Value.bool b_2, slice a_3 n_2 m_2], agg #[Value.bool false, slice a_1 n m]] h_1 fun (v : Value) (h : Heap) =>
 ∃ (b_3 : Bool),
 ∃ (a_4 : Option Addr),
 ∃ (n : Nat),
 ∃ (m : Nat),
 v = agg #[Value.bool b_3, slice a_4 n m] ∧
 (Heap.le h_1 h ∨ Keeps [rest] h_1 h) ∧
 CallA Try.prog fn_ref01_larger [agg #[Value.bool b_3, slice a_4 n m], agg #[Value.bool b_1, slice a_2 n_1 m_1]] h fun (v : Value) (h : Heap) =>
 ∃ (n : Int),
 v = int IntKind.i64 n ∧
 Br (decide (n ≤ 0)) (L_ref01_Div_2 up a b t6 rest q i (IntKind.wrap IntKind.i64 (Int.tdiv (IntKind.wrap IntKind.i64 (low + high)) 2)) high h K)
 (L_ref01_Div_2 up a b t6 rest q i low (IntKind.wrap IntKind.i64 (Int.tdiv (IntKind.wrap IntKind.i64 (low + high)) 2)) h K))
 (∃ (a_1 : Option Addr),
 ∃ (n : Nat),
 ∃ (m : Nat),
 Heap.cell h q 1 = some (slice a_1 n m) ∧
 0 ≤ i ∧
 i < (↑n : Int) ∧
 withAddr a_1 fun (b_1 o : Nat) =>
 Heap.canSt h b_1 (o + Int.toNat i) 1 ∧
 ∃ (b_2 : Bool),
 Heap.cell (Heap.setN h b_1 (o + Int.toNat i) [int IntKind.i64 low]) rest 0 = some (Value.bool b_2) ∧
 ∃ (a_2 : Option Addr),
 ∃ (n : Nat),
 ∃ (m : Nat),
 Heap.cell (Heap.setN h b_1 (o + Int.toNat i) [int IntKind.i64 low]) rest 1 = some (slice a_2 n m) ∧
 ∃ (a_3 : Option Addr),
 ∃ (n_1 : Nat),
 ∃ (m_1 : Nat),
 Heap.cell (Heap.setN h b_1 (o + Int.toNat i) [int IntKind.i64 low]) b 1 = some (slice a_3 n_1 m_1) ∧
 CallA Try.prog fn_ref01_Of [int IntKind.i64 low] (Heap.setN h b_1 (o + Int.toNat i) [int IntKind.i64 low]) fun (v : Value) (h_1 : Heap) =>
 ∃ (b_3 : Bool),
 ∃ (a_4 : Option Addr),
 ∃ (n_2 : Nat),
 ∃ (m_2 : Nat),
 v = agg #[Value.bool b_3, slice a_4 n_2 m_2] ∧
 (Heap.le (Heap.setN h b_1 (o + Int.toNat i) [int IntKind.i64 low]) h_1 ∨ Keeps [rest, b] (Heap.setN h b_1 (o + Int.toNat i) [int IntKind.i64 low]) h_1) ∧
 CallA Try.prog fn_ref01_Mul [agg #[Value.bool b_3, slice a_4 n_2 m_2], agg #[Value.bool false, slice a_3 n_1 m_1]] h_1 fun (v : Value) (h : Heap) =>
 ∃ (b_4 : Bool),
 ∃ (a_5 : Option Addr),
 ∃ (n_3 : Nat),
 ∃ (m_3 : Nat),
 v = agg #[Value.bool b_4, slice a_5 n_3 m_3] ∧
 (Heap.le h_1 h ∨ Keeps [rest] h_1 h) ∧
 CallA Try.prog fn_ref01_Turned [agg #[Value.bool b_4, slice a_5 n_3 m_3]] h fun (v : Value) (h_2 : Heap) =>
 ∃ (b_5 : Bool),
 ∃ (a_6 : Option Addr),
 ∃ (n_4 : Nat),
 ∃ (m_4 : Nat),
 v = agg #[Value.bool b_5, slice a_6 n_4 m_4] ∧
 (Heap.le h h_2 ∨ Keeps [rest] h h_2) ∧
 CallA Try.prog fn_ref01_Add [agg #[Value.bool b_2, slice a_2 n m], agg #[Value.bool b_5, slice a_6 n_4 m_4]] h_2 fun (v : Value) (h : Heap) =>
 ∃ (b_6 : Bool),
 ∃ (a_7 : Option Addr),
 ∃ (n : Nat),
 ∃ (m : Nat),
 v = agg #[Value.bool b_6, slice a_7 n m] ∧
 Heap.canSt h rest 0 2 ∧ L_ref01_Div_1 up a b t6 rest q i (Heap.setN h rest 0 [Value.bool b_6, slice a_7 n m]) K)
theorem L_ref01_Div_2r (up : Bool) (a : Nat) (b : Nat) (t6 : Nat) (rest : Nat) (q : Nat) (i : Int) (low : Int) (high : Int) (h : Heap) (K : Value → Heap → Prop) (k : L_ref01_Div_2T up a b t6 rest q i low high h K) : L_ref01_Div_2 up a b t6 rest q i low high h K :=
 LoopAt.of_ev (cs := []) Try.func125 mixed (fun junk => by kernel_rfl) k
def F_ref01_DivT (a_0 : Bool) (a_1 : Option Addr) (a_1n : Nat) (a_1c : Nat) (b_0 : Bool) (b_1 : Option Addr) (b_1n : Nat) (b_1c : Nat) (up : Bool) (h : Heap) (K : Value → Heap → Prop) : Prop :=
 newB h [Value.bool a_0, slice a_1 a_1n a_1c] 118 fun (r : Nat) (h : Heap) =>
 newB h [Value.bool b_0, slice b_1 b_1n b_1c] 118 fun (r_1 : Nat) (h : Heap) =>
 newB h [Value.bool false, slice none 0 0] 118 fun (r_2 : Nat) (h : Heap) =>
 newB h [Value.bool false, slice none 0 0] 118 fun (r_3 : Nat) (h : Heap) =>
 Heap.canSt h r_3 0 2 ∧
 ∃ (b : Bool),
 Heap.cell (Heap.setN h r_3 0 [Value.bool false, slice none 0 0]) r 0 = some (Value.bool b) ∧
 ∃ (a : Option Addr),
 ∃ (n : Nat),
 ∃ (m : Nat),
 Heap.cell (Heap.setN h r_3 0 [Value.bool false, slice none 0 0]) r 1 = some (slice a n m) ∧
 0 ≤ (↑n : Int) ∧
 (↑n : Int) ≤ (↑n : Int) ∧
 (↑n : Int) ≤ 281474976710656 ∧
 8 * (↑n : Int) ≤ 281474976710656 ∧
 newB (Heap.setN h r_3 0 [Value.bool false, slice none 0 0]) (repL (Int.toNat (↑n : Int)) [int IntKind.i64 0]) 3 fun (r_4 : Nat) (h : Heap) =>
 newB h [Value.bool false, slice none 0 0] 118 fun (r_5 : Nat) (h : Heap) =>
 Heap.canSt h r_5 0 2 ∧
 ∃ (a : Option Addr),
 ∃ (n_1 : Nat),
 ∃ (m : Nat),
 Heap.cell (Heap.setN h r_5 0 [Value.bool b, slice (some { block := r_4, off := 0 }) (Int.toNat (↑n : Int)) (Int.toNat (↑n : Int))]) r 1 = some (slice a n_1 m) ∧
 L_ref01_Div_0 up r r_1 r_2 r_3 r_5 (IntKind.wrap IntKind.i64 ((↑n_1 : Int) - 1))
 (Heap.setN h r_5 0 [Value.bool b, slice (some { block := r_4, off := 0 }) (Int.toNat (↑n : Int)) (Int.toNat (↑n : Int))]) K
theorem F_ref01_Div (a_0 : Bool) (a_1 : Option Addr) (a_1n : Nat) (a_1c : Nat) (b_0 : Bool) (b_1 : Option Addr) (b_1n : Nat) (b_1c : Nat) (up : Bool) (h : Heap) (K : Value → Heap → Prop) (k : F_ref01_DivT a_0 a_1 a_1n a_1c b_0 b_1 b_1n b_1c up h K) : CallA Try.prog fn_ref01_Div [agg #[Value.bool a_0, slice a_1 a_1n a_1c], agg #[Value.bool b_0, slice b_1 b_1n b_1c], Value.bool up] h K :=
 CallA.of_ev (cs := []) Try.func125 (by kernel_rfl) (fun _ _ => Try.call125 _ _) mixed (by kernel_rfl) (by kernel_rfl) k
end Go.Proofs.Ytkcogdmddhkldaa
