import Derived.Test.YtkcogdmddhkldaaEqN
namespace Go.Proofs.Ytkcogdmddhkldaa
open Go Go.Sy Go.Value
set_option linter.unusedVariables false
set_option maxRecDepth 100000
def F_ref01_digitT (a_0 : Bool) (a_1 : Option Addr) (a_1n : Nat) (a_1c : Nat) (i : Int) (h : Heap) (K : Value → Heap → Prop) : Prop :=
 newB h [Value.bool a_0, slice a_1 a_1n a_1c] 118 fun (r : Nat) (h : Heap) =>
 ∃ (a : Option Addr),
 ∃ (n : Nat),
 ∃ (m : Nat),
 Heap.cell h r 1 = some (slice a n m) ∧
 Br (decide (i < (↑n : Int)))
 (∃ (a : Option Addr),
 ∃ (n : Nat),
 ∃ (m : Nat),
 Heap.cell h r 1 = some (slice a n m) ∧ 0 ≤ i ∧ i < (↑n : Int) ∧ withAddr a fun (b o : Nat) => ∃ (n : Int), Heap.cell h b (o + Int.toNat i) = some (int IntKind.i64 n) ∧ Ret h K (int IntKind.i64 n))
 (Ret h K (int IntKind.i64 0))
theorem F_ref01_digit (a_0 : Bool) (a_1 : Option Addr) (a_1n : Nat) (a_1c : Nat) (i : Int) (h : Heap) (K : Value → Heap → Prop) (k : F_ref01_digitT a_0 a_1 a_1n a_1c i h K) : CallA Try.prog fn_ref01_digit [agg #[Value.bool a_0, slice a_1 a_1n a_1c], int IntKind.i64 i] h K :=
 CallA.of_ev (cs := []) Try.func108 (by kernel_rfl) (fun _ _ => Try.call108 _ _) mixed (by kernel_rfl) (by kernel_rfl) k
def L_ref01_trim_0 (a : Nat) (t2 : Nat) (n : Int) (h : Heap) (K : Value → Heap → Prop) : Prop :=
 LoopAt Try.prog Try.f106 106 (loopK Try.f106 0) (sp 30 [(1, pointer (some { block := a, off := 0 })), (2, pointer (some { block := t2, off := 0 })), (3, int IntKind.i64 n)]) h K
def L_ref01_trim_0T (a : Nat) (t2 : Nat) (n : Int) (h : Heap) (K : Value → Heap → Prop) : Prop :=
 Br (decide (n > 0))
 (∃ (a_1 : Option Addr),
 ∃ (n_1 : Nat),
 ∃ (m : Nat),
 Heap.cell h a 1 = some (slice a_1 n_1 m) ∧
 0 ≤ IntKind.wrap IntKind.i64 (n - 1) ∧
 IntKind.wrap IntKind.i64 (n - 1) < (↑n_1 : Int) ∧
 withAddr a_1 fun (b o : Nat) =>
 ∃ (n_2 : Int),
 Heap.cell h b (o + Int.toNat (IntKind.wrap IntKind.i64 (n - 1))) = some (int IntKind.i64 n_2) ∧
 Br (n_2 == 0) (L_ref01_trim_0 a t2 (IntKind.wrap IntKind.i64 (n - 1)) h K)
 (Br (n == 0)
 (Heap.canSt h t2 0 2 ∧
 ∃ (b : Bool),
 Heap.cell (Heap.setN h t2 0 [Value.bool false, slice none 0 0]) t2 0 = some (Value.bool b) ∧
 ∃ (a : Option Addr),
 ∃ (n : Nat),
 ∃ (m : Nat),
 Heap.cell (Heap.setN h t2 0 [Value.bool false, slice none 0 0]) t2 1 = some (slice a n m) ∧
 Ret (Heap.setN h t2 0 [Value.bool false, slice none 0 0]) K (agg #[Value.bool b, slice a n m]))
 (∃ (b : Bool),
 Heap.cell h a 0 = some (Value.bool b) ∧
 ∃ (a_2 : Option Addr),
 ∃ (n_3 : Nat),
 ∃ (m : Nat),
 Heap.cell h a 1 = some (slice a_2 n_3 m) ∧
 0 ≤ n ∧
 n ≤ (↑m : Int) ∧
 Heap.canSt h t2 0 2 ∧
 ∃ (b_1 : Bool),
 Heap.cell (Heap.setN h t2 0 [Value.bool b, slice a_2 (Int.toNat n) m]) t2 0 = some (Value.bool b_1) ∧
 ∃ (a : Option Addr),
 ∃ (n_4 : Nat),
 ∃ (m_1 : Nat),
 Heap.cell (Heap.setN h t2 0 [Value.bool b, slice a_2 (Int.toNat n) m]) t2 1 = some (slice a n_4 m_1) ∧
 Ret (Heap.setN h t2 0 [Value.bool b, slice a_2 (Int.toNat n) m]) K (agg #[Value.bool b_1, slice a n_4 m_1]))))
 (Br (n == 0)
 (Heap.canSt h t2 0 2 ∧
 ∃ (b : Bool),
 Heap.cell (Heap.setN h t2 0 [Value.bool false, slice none 0 0]) t2 0 = some (Value.bool b) ∧
 ∃ (a : Option Addr),
 ∃ (n : Nat),
 ∃ (m : Nat), Heap.cell (Heap.setN h t2 0 [Value.bool false, slice none 0 0]) t2 1 = some (slice a n m) ∧ Ret (Heap.setN h t2 0 [Value.bool false, slice none 0 0]) K (agg #[Value.bool b, slice a n m]))
 (∃ (b : Bool),
 Heap.cell h a 0 = some (Value.bool b) ∧
 ∃ (a_1 : Option Addr),
 ∃ (n_1 : Nat),
 ∃ (m : Nat),
 Heap.cell h a 1 = some (slice a_1 n_1 m) ∧
 0 ≤ n ∧
 n ≤ (↑m : Int) ∧
 Heap.canSt h t2 0 2 ∧
 ∃ (b_1 : Bool),
 Heap.cell (Heap.setN h t2 0 [Value.bool b, slice a_1 (Int.toNat n) m]) t2 0 = some (Value.bool b_1) ∧
 ∃ (a : Option Addr),
 ∃ (n_2 : Nat),
 ∃ (m_1 : Nat),
 Heap.cell (Heap.setN h t2 0 [Value.bool b, slice a_1 (Int.toNat n) m]) t2 1 = some (slice a n_2 m_1) ∧
 Ret (Heap.setN h t2 0 [Value.bool b, slice a_1 (Int.toNat n) m]) K (agg #[Value.bool b_1, slice a n_2 m_1])))
theorem L_ref01_trim_0r (a : Nat) (t2 : Nat) (n : Int) (h : Heap) (K : Value → Heap → Prop) (k : L_ref01_trim_0T a t2 n h K) : L_ref01_trim_0 a t2 n h K :=
 LoopAt.of_ev (cs := []) Try.func106 mixed (fun junk => by kernel_rfl) k
def F_ref01_trimT (a_0 : Bool) (a_1 : Option Addr) (a_1n : Nat) (a_1c : Nat) (h : Heap) (K : Value → Heap → Prop) : Prop :=
 newB h [Value.bool a_0, slice a_1 a_1n a_1c] 118 fun (r : Nat) (h : Heap) =>
 newB h [Value.bool false, slice none 0 0] 118 fun (r_1 : Nat) (h : Heap) => ∃ (a : Option Addr), ∃ (n : Nat), ∃ (m : Nat), Heap.cell h r 1 = some (slice a n m) ∧ L_ref01_trim_0 r r_1 (↑n : Int) h K
theorem F_ref01_trim (a_0 : Bool) (a_1 : Option Addr) (a_1n : Nat) (a_1c : Nat) (h : Heap) (K : Value → Heap → Prop) (k : F_ref01_trimT a_0 a_1 a_1n a_1c h K) : CallA Try.prog fn_ref01_trim [agg #[Value.bool a_0, slice a_1 a_1n a_1c]] h K :=
 CallA.of_ev (cs := []) Try.func106 (by kernel_rfl) (fun _ _ => Try.call106 _ _) mixed (by kernel_rfl) (by kernel_rfl) k
def L_ref01_larger_0 (a : Nat) (b : Nat) (i : Int) (h : Heap) (K : Value → Heap → Prop) : Prop :=
 LoopAt Try.prog Try.f109 109 (loopK Try.f109 0) (sp 32 [(2, pointer (some { block := a, off := 0 })), (3, pointer (some { block := b, off := 0 })), (5, int IntKind.i64 i)]) h K
def L_ref01_larger_0T (a : Nat) (b : Nat) (i : Int) (h : Heap) (K : Value → Heap → Prop) : Prop :=
 Br (decide (i ≥ 0))
 (∃ (b_1 : Bool),
 Heap.cell h a 0 = some (Value.bool b_1) ∧
 ∃ (a_1 : Option Addr),
 ∃ (n : Nat),
 ∃ (m : Nat),
 Heap.cell h a 1 = some (slice a_1 n m) ∧
 ∃ (b_2 : Bool),
 Heap.cell h b 0 = some (Value.bool b_2) ∧
 ∃ (a_2 : Option Addr),
 ∃ (n_1 : Nat),
 ∃ (m_1 : Nat),
 Heap.cell h b 1 = some (slice a_2 n_1 m_1) ∧
 CallA Try.prog fn_ref01_digit [agg #[Value.bool b_1, slice a_1 n m], int IntKind.i64 i] h fun (v : Value) (h_1 : Heap) =>
 ∃ (n : Int),
 v = int IntKind.i64 n ∧
 (Heap.le h h_1 ∨ Keeps [b] h h_1) ∧
 CallA Try.prog fn_ref01_digit [agg #[Value.bool b_2, slice a_2 n_1 m_1], int IntKind.i64 i] h_1 fun (v : Value) (h : Heap) =>
 ∃ (n_2 : Int),
 v = int IntKind.i64 n_2 ∧
 Br (decide (n > n_2)) (Ret h K (int IntKind.i64 1))
 (∃ (b_3 : Bool),
 Heap.cell h a 0 = some (Value.bool b_3) ∧
 ∃ (a_3 : Option Addr),
 ∃ (n : Nat),
 ∃ (m : Nat),
 Heap.cell h a 1 = some (slice a_3 n m) ∧
 ∃ (b_4 : Bool),
 Heap.cell h b 0 = some (Value.bool b_4) ∧
 ∃ (a_4 : Option Addr),
 ∃ (n_3 : Nat),
 ∃ (m_2 : Nat),
 Heap.cell h b 1 = some (slice a_4 n_3 m_2) ∧
 CallA Try.prog fn_ref01_digit [agg #[Value.bool b_3, slice a_3 n m], int IntKind.i64 i] h fun (v : Value) (h_2 : Heap) =>
 ∃ (n : Int),
 v = int IntKind.i64 n ∧
 (Heap.le h h_2 ∨ Keeps [b] h h_2) ∧
 CallA Try.prog fn_ref01_digit [agg #[Value.bool b_4, slice a_4 n_3 m_2], int IntKind.i64 i] h_2 fun (v : Value) (h : Heap) =>
 ∃ (n_4 : Int),
 v = int IntKind.i64 n_4 ∧ Br (decide (n < n_4)) (Ret h K (int IntKind.i64 (-1))) (L_ref01_larger_0 a b (IntKind.wrap IntKind.i64 (i - 1)) h K)))
 (Ret h K (int IntKind.i64 0))
theorem L_ref01_larger_0r (a : Nat) (b : Nat) (i : Int) (h : Heap) (K : Value → Heap → Prop) (k : L_ref01_larger_0T a b i h K) : L_ref01_larger_0 a b i h K :=
 LoopAt.of_ev (cs := []) Try.func109 mixed (fun junk => by kernel_rfl) k
def F_ref01_largerT (a_0 : Bool) (a_1 : Option Addr) (a_1n : Nat) (a_1c : Nat) (b_0 : Bool) (b_1 : Option Addr) (b_1n : Nat) (b_1c : Nat) (h : Heap) (K : Value → Heap → Prop) : Prop :=
 newB h [Value.bool a_0, slice a_1 a_1n a_1c] 118 fun (r : Nat) (h : Heap) =>
 newB h [Value.bool b_0, slice b_1 b_1n b_1c] 118 fun (r_1 : Nat) (h : Heap) =>
 ∃ (a : Option Addr),
 ∃ (n : Nat),
 ∃ (m : Nat),
 Heap.cell h r 1 = some (slice a n m) ∧
 ∃ (a : Option Addr), ∃ (n_1 : Nat), ∃ (m : Nat), Heap.cell h r_1 1 = some (slice a n_1 m) ∧ L_ref01_larger_0 r r_1 (IntKind.wrap IntKind.i64 ((if (↑n_1 : Int) > (↑n : Int) then (↑n_1 : Int) else (↑n : Int)) - 1)) h K
theorem F_ref01_larger (a_0 : Bool) (a_1 : Option Addr) (a_1n : Nat) (a_1c : Nat) (b_0 : Bool) (b_1 : Option Addr) (b_1n : Nat) (b_1c : Nat) (h : Heap) (K : Value → Heap → Prop) (k : F_ref01_largerT a_0 a_1 a_1n a_1c b_0 b_1 b_1n b_1c h K) : CallA Try.prog fn_ref01_larger [agg #[Value.bool a_0, slice a_1 a_1n a_1c], agg #[Value.bool b_0, slice b_1 b_1n b_1c]] h K :=
 CallA.of_ev (cs := []) Try.func109 (by kernel_rfl) (fun _ _ => Try.call109 _ _) mixed (by kernel_rfl) (by kernel_rfl) k
def F_ref01_TurnedT (a_0 : Bool) (a_1 : Option Addr) (a_1n : Nat) (a_1c : Nat) (h : Heap) (K : Value → Heap → Prop) : Prop :=
 newB h [Value.bool a_0, slice a_1 a_1n a_1c] 118 fun (r : Nat) (h : Heap) =>
 newB h [Value.bool false, slice none 0 0] 118 fun (r_1 : Nat) (h : Heap) =>
 ∃ (b : Bool),
 Heap.cell h r 0 = some (Value.bool b) ∧
 ∃ (a : Option Addr),
 ∃ (n : Nat),
 ∃ (m : Nat),
 Heap.cell h r 1 = some (slice a n m) ∧
 CallA Try.prog fn_ref01_trim [agg #[Value.bool !b, slice a n m]] h fun (v : Value) (h : Heap) =>
 ∃ (b : Bool),
 ∃ (a : Option Addr),
 ∃ (n : Nat),
 ∃ (m : Nat),
 v = agg #[Value.bool b, slice a n m] ∧
 Heap.canSt h r_1 0 2 ∧
 ∃ (b_1 : Bool),
 Heap.cell (Heap.setN h r_1 0 [Value.bool b, slice a n m]) r_1 0 = some (Value.bool b_1) ∧
 ∃ (a_2 : Option Addr),
 ∃ (n_1 : Nat),
 ∃ (m_1 : Nat),
 Heap.cell (Heap.setN h r_1 0 [Value.bool b, slice a n m]) r_1 1 = some (slice a_2 n_1 m_1) ∧
 Ret (Heap.setN h r_1 0 [Value.bool b, slice a n m]) K (agg #[Value.bool b_1, slice a_2 n_1 m_1])
theorem F_ref01_Turned (a_0 : Bool) (a_1 : Option Addr) (a_1n : Nat) (a_1c : Nat) (h : Heap) (K : Value → Heap → Prop) (k : F_ref01_TurnedT a_0 a_1 a_1n a_1c h K) : CallA Try.prog fn_ref01_Turned [agg #[Value.bool a_0, slice a_1 a_1n a_1c]] h K :=
 CallA.of_ev (cs := []) Try.func70 (by kernel_rfl) (fun _ _ => Try.call70 _ _) mixed (by kernel_rfl) (by kernel_rfl) k
def L_ref01_Of_0 (n : Int) (t2 : Nat) (out : Nat) (h : Heap) (K : Value → Heap → Prop) : Prop :=
 LoopAt Try.prog Try.f71 71 (loopK Try.f71 0) (sp 25 [(0, int IntKind.i64 n), (2, pointer (some { block := t2, off := 0 })), (3, pointer (some { block := out, off := 0 }))]) h K
def L_ref01_Of_0T (n : Int) (t2 : Nat) (out : Nat) (h : Heap) (K : Value → Heap → Prop) : Prop :=
 Br (n != 0)
 (Br (decide (Int.tmod n 10000 < 0))
 (∃ (a : Option Addr),
 ∃ (n_1 : Nat),
 ∃ (m : Nat),
 Heap.cell h out 1 = some (slice a n_1 m) ∧
 newB h [int IntKind.i64 (IntKind.wrap IntKind.i64 (0 - Int.tmod n 10000))] 3 fun (r : Nat) (h : Heap) =>
 AppA [int IntKind.i64 0] 3 h a n_1 m 1 (some { block := r, off := 0 }) fun (ap : Option Addr) (cp : Nat) (h : Heap) =>
 Heap.canSt h out 1 1 ∧ L_ref01_Of_0 (IntKind.wrap IntKind.i64 (Int.tdiv n 10000)) t2 out (Heap.setN h out 1 [slice ap (n_1 + 1) cp]) K)
 (∃ (a : Option Addr),
 ∃ (n_1 : Nat),
 ∃ (m : Nat),
 Heap.cell h out 1 = some (slice a n_1 m) ∧
 newB h [int IntKind.i64 (Int.tmod n 10000)] 3 fun (r : Nat) (h : Heap) =>
 AppA [int IntKind.i64 0] 3 h a n_1 m 1 (some { block := r, off := 0 }) fun (ap : Option Addr) (cp : Nat) (h : Heap) =>
 Heap.canSt h out 1 1 ∧ L_ref01_Of_0 (IntKind.wrap IntKind.i64 (Int.tdiv n 10000)) t2 out (Heap.setN h out 1 [slice ap (n_1 + 1) cp]) K))
 (∃ (b : Bool),
 Heap.cell h out 0 = some (Value.bool b) ∧
 ∃ (a : Option Addr),
 ∃ (n : Nat),
 ∃ (m : Nat),
 Heap.cell h out 1 = some (slice a n m) ∧
 Heap.canSt h t2 0 2 ∧
 ∃ (b_1 : Bool),
 Heap.cell (Heap.setN h t2 0 [Value.bool b, slice a n m]) t2 0 = some (Value.bool b_1) ∧
 ∃ (a_1 : Option Addr),
 ∃ (n_1 : Nat),
 ∃ (m_1 : Nat),
 Heap.cell (Heap.setN h t2 0 [Value.bool b, slice a n m]) t2 1 = some (slice a_1 n_1 m_1) ∧ Ret (Heap.setN h t2 0 [Value.bool b, slice a n m]) K (agg #[Value.bool b_1, slice a_1 n_1 m_1]))
theorem L_ref01_Of_0r (n : Int) (t2 : Nat) (out : Nat) (h : Heap) (K : Value → Heap → Prop) (k : L_ref01_Of_0T n t2 out h K) : L_ref01_Of_0 n t2 out h K :=
 LoopAt.of_ev (cs := []) Try.func71 mixed (fun junk => by kernel_rfl) k
def F_ref01_OfT (n : Int) (h : Heap) (K : Value → Heap → Prop) : Prop :=
 newB h [Value.bool false, slice none 0 0] 118 fun (r : Nat) (h : Heap) =>
 newB h [Value.bool false, slice none 0 0] 118 fun (r_1 : Nat) (h : Heap) => Heap.canSt h r_1 0 2 ∧ L_ref01_Of_0 n r r_1 (Heap.setN h r_1 0 [Value.bool (decide (n < 0)), slice none 0 0]) K
theorem F_ref01_Of (n : Int) (h : Heap) (K : Value → Heap → Prop) (k : F_ref01_OfT n h K) : CallA Try.prog fn_ref01_Of [int IntKind.i64 n] h K :=
 CallA.of_ev (cs := []) Try.func71 (by kernel_rfl) (fun _ _ => Try.call71 _ _) mixed (by kernel_rfl) (by kernel_rfl) k
def L_ref01_Fit_0 (a : Nat) (n : Int) (i : Int) (h : Heap) (K : Value → Heap → Prop) : Prop :=
 LoopAt Try.prog Try.f69 69 (loopK Try.f69 0) (sp 43 [(1, pointer (some { block := a, off := 0 })), (4, int IntKind.i64 n), (5, int IntKind.i64 i)]) h K
def L_ref01_Fit_0T (a : Nat) (n : Int) (i : Int) (h : Heap) (K : Value → Heap → Prop) : Prop :=
 Br (decide (i ≥ 0))
 (∃ (b : Bool),
 Heap.cell h a 0 = some (Value.bool b) ∧
 Br b
 (∃ (a_1 : Option Addr),
 ∃ (n_1 : Nat),
 ∃ (m : Nat),
 Heap.cell h a 1 = some (slice a_1 n_1 m) ∧
 0 ≤ i ∧
 i < (↑n_1 : Int) ∧
 withAddr a_1 fun (b o : Nat) =>
 ∃ (n_2 : Int), Heap.cell h b (o + Int.toNat i) = some (int IntKind.i64 n_2) ∧ L_ref01_Fit_0 a (IntKind.wrap IntKind.i64 (IntKind.wrap IntKind.i64 (10000 * n) - n_2)) (IntKind.wrap IntKind.i64 (i - 1)) h K)
 (∃ (a_1 : Option Addr),
 ∃ (n_1 : Nat),
 ∃ (m : Nat),
 Heap.cell h a 1 = some (slice a_1 n_1 m) ∧
 0 ≤ i ∧
 i < (↑n_1 : Int) ∧
 withAddr a_1 fun (b o : Nat) =>
 ∃ (n_2 : Int), Heap.cell h b (o + Int.toNat i) = some (int IntKind.i64 n_2) ∧ L_ref01_Fit_0 a (IntKind.wrap IntKind.i64 (IntKind.wrap IntKind.i64 (10000 * n) + n_2)) (IntKind.wrap IntKind.i64 (i - 1)) h K))
 (Ret h K (tuple #[int IntKind.i64 n, int IntKind.i64 0]))
theorem L_ref01_Fit_0r (a : Nat) (n : Int) (i : Int) (h : Heap) (K : Value → Heap → Prop) (k : L_ref01_Fit_0T a n i h K) : L_ref01_Fit_0 a n i h K :=
 LoopAt.of_ev (cs := []) Try.func69 mixed (fun junk => by kernel_rfl) k
def F_ref01_FitT (a_0 : Bool) (a_1 : Option Addr) (a_1n : Nat) (a_1c : Nat) (h : Heap) (K : Value → Heap → Prop) : Prop :=
 newB h [Value.bool a_0, slice a_1 a_1n a_1c] 118 fun (r : Nat) (h : Heap) =>
 ∃ (b : Bool),
 Heap.cell h r 0 = some (Value.bool b) ∧
 ∃ (a : Option Addr),
 ∃ (n : Nat),
 ∃ (m : Nat),
 Heap.cell h r 1 = some (slice a n m) ∧
 CallA Try.prog fn_ref01_Of [int IntKind.i64 (-9223372036854775808)] h fun (v : Value) (h_1 : Heap) =>
 ∃ (b_1 : Bool),
 ∃ (a_2 : Option Addr),
 ∃ (n_1 : Nat),
 ∃ (m_1 : Nat),
 v = agg #[Value.bool b_1, slice a_2 n_1 m_1] ∧
 (Heap.le h h_1 ∨ Keeps [r] h h_1) ∧
 CallA Try.prog fn_ref01_Cmp [agg #[Value.bool b, slice a n m], agg #[Value.bool b_1, slice a_2 n_1 m_1]] h_1 fun (v : Value) (h : Heap) =>
 ∃ (n : Int),
 v = int IntKind.i64 n ∧
 Br (decide (n < 0)) (Ret h K (tuple #[int IntKind.i64 0, int IntKind.i64 3]))
 (∃ (b : Bool),
 Heap.cell h r 0 = some (Value.bool b) ∧
 ∃ (a : Option Addr),
 ∃ (n : Nat),
 ∃ (m : Nat),
 Heap.cell h r 1 = some (slice a n m) ∧
 CallA Try.prog fn_ref01_Of [int IntKind.i64 9223372036854775807] h fun (v : Value) (h_2 : Heap) =>
 ∃ (b_2 : Bool),
 ∃ (a_3 : Option Addr),
 ∃ (n_2 : Nat),
 ∃ (m_2 : Nat),
 v = agg #[Value.bool b_2, slice a_3 n_2 m_2] ∧
 (Heap.le h h_2 ∨ Keeps [r] h h_2) ∧
 CallA Try.prog fn_ref01_Cmp [agg #[Value.bool b, slice a n m], agg #[Value.bool b_2, slice a_3 n_2 m_2]] h_2 fun (v : Value) (h : Heap) =>
 ∃ (n : Int),
 v = int IntKind.i64 n ∧
 Br (decide (n > 0)) (Ret h K (tuple #[int IntKind.i64 0, int IntKind.i64 3]))
 (∃ (a : Option Addr), ∃ (n : Nat), ∃ (m : Nat), Heap.cell h r 1 = some (slice a n m) ∧ L_ref01_Fit_0 r 0 (IntKind.wrap IntKind.i64 ((↑n : Int) - 1)) h K))
theorem F_ref01_Fit (a_0 : Bool) (a_1 : Option Addr) (a_1n : Nat) (a_1c : Nat) (h : Heap) (K : Value → Heap → Prop) (k : F_ref01_FitT a_0 a_1 a_1n a_1c h K) : CallA Try.prog fn_ref01_Fit [agg #[Value.bool a_0, slice a_1 a_1n a_1c]] h K :=
 CallA.of_ev (cs := []) Try.func69 (by kernel_rfl) (fun _ _ => Try.call69 _ _) mixed (by kernel_rfl) (by kernel_rfl) k
def F_ref01_CmpT (a_0 : Bool) (a_1 : Option Addr) (a_1n : Nat) (a_1c : Nat) (b_0 : Bool) (b_1 : Option Addr) (b_1n : Nat) (b_1c : Nat) (h : Heap) (K : Value → Heap → Prop) : Prop :=
 newB h [Value.bool a_0, slice a_1 a_1n a_1c] 118 fun (r : Nat) (h : Heap) =>
 newB h [Value.bool b_0, slice b_1 b_1n b_1c] 118 fun (r_1 : Nat) (h : Heap) =>
 ∃ (b : Bool),
 Heap.cell h r 0 = some (Value.bool b) ∧
 ∃ (a : Option Addr),
 ∃ (n : Nat),
 ∃ (m : Nat),
 Heap.cell h r 1 = some (slice a n m) ∧
 ∃ (b_2 : Bool),
 Heap.cell h r_1 0 = some (Value.bool b_2) ∧
 ∃ (a_2 : Option Addr),
 ∃ (n_1 : Nat),
 ∃ (m_1 : Nat),
 Heap.cell h r_1 1 = some (slice a_2 n_1 m_1) ∧
 CallA Try.prog fn_ref01_Turned [agg #[Value.bool b_2, slice a_2 n_1 m_1]] h fun (v : Value) (h_1 : Heap) =>
 ∃ (b_3 : Bool),
 ∃ (a_3 : Option Addr),
 ∃ (n_2 : Nat),
 ∃ (m_2 : Nat),
 v = agg #[Value.bool b_3, slice a_3 n_2 m_2] ∧
 (Heap.le h h_1 ∨ Keeps [r] h h_1) ∧
 CallA Try.prog fn_ref01_Add [agg #[Value.bool b, slice a n m], agg #[Value.bool b_3, slice a_3 n_2 m_2]] h_1 fun (v : Value) (h : Heap) =>
 ∃ (b : Bool),
 ∃ (a : Option Addr),
 ∃ (n : Nat),
 ∃ (m : Nat),
 v = agg #[Value.bool b, slice a n m] ∧
 newB h [Value.bool false, slice none 0 0] 118 fun (r : Nat) (h : Heap) =>
 Heap.canSt h r 0 2 ∧
 ∃ (a_4 : Option Addr),
 ∃ (n_3 : Nat),
 ∃ (m_3 : Nat),
 Heap.cell (Heap.setN h r 0 [Value.bool b, slice a n m]) r 1 = some (slice a_4 n_3 m_3) ∧
 Br ((↑n_3 : Int) == 0) (Ret (Heap.setN h r 0 [Value.bool b, slice a n m]) K (int IntKind.i64 0))
 (∃ (b_4 : Bool),
 Heap.cell (Heap.setN h r 0 [Value.bool b, slice a n m]) r 0 = some (Value.bool b_4) ∧
 Br b_4 (Ret (Heap.setN h r 0 [Value.bool b, slice a n m]) K (int IntKind.i64 (-1)))
 (Ret (Heap.setN h r 0 [Value.bool b, slice a n m]) K (int IntKind.i64 1)))
theorem F_ref01_Cmp (a_0 : Bool) (a_1 : Option Addr) (a_1n : Nat) (a_1c : Nat) (b_0 : Bool) (b_1 : Option Addr) (b_1n : Nat) (b_1c : Nat) (h : Heap) (K : Value → Heap → Prop) (k : F_ref01_CmpT a_0 a_1 a_1n a_1c b_0 b_1 b_1n b_1c h K) : CallA Try.prog fn_ref01_Cmp [agg #[Value.bool a_0, slice a_1 a_1n a_1c], agg #[Value.bool b_0, slice b_1 b_1n b_1c]] h K :=
 CallA.of_ev (cs := []) Try.func105 (by kernel_rfl) (fun _ _ => Try.call105 _ _) mixed (by kernel_rfl) (by kernel_rfl) k
def F_ref01_MulDivT (a : Int) (b : Int) (c : Int) (up : Bool) (h : Heap) (K : Value → Heap → Prop) : Prop :=
 Br (decide (c < 1)) (Ret h K (tuple #[int IntKind.i64 0, int IntKind.i64 1]))
 (CallA Try.prog fn_ref01_Of [int IntKind.i64 a] h fun (v : Value) (h : Heap) =>
 ∃ (b_1 : Bool),
 ∃ (a : Option Addr),
 ∃ (n : Nat),
 ∃ (m : Nat),
 v = agg #[Value.bool b_1, slice a n m] ∧
 CallA Try.prog fn_ref01_Of [int IntKind.i64 b] h fun (v : Value) (h : Heap) =>
 ∃ (b : Bool),
 ∃ (a_1 : Option Addr),
 ∃ (n_1 : Nat),
 ∃ (m_1 : Nat),
 v = agg #[Value.bool b, slice a_1 n_1 m_1] ∧
 CallA Try.prog fn_ref01_Mul [agg #[Value.bool b_1, slice a n m], agg #[Value.bool b, slice a_1 n_1 m_1]] h fun (v : Value) (h : Heap) =>
 ∃ (b : Bool),
 ∃ (a : Option Addr),
 ∃ (n : Nat),
 ∃ (m : Nat),
 v = agg #[Value.bool b, slice a n m] ∧
 CallA Try.prog fn_ref01_Of [int IntKind.i64 c] h fun (v : Value) (h : Heap) =>
 ∃ (b_2 : Bool),
 ∃ (a_2 : Option Addr),
 ∃ (n_2 : Nat),
 ∃ (m_2 : Nat),
 v = agg #[Value.bool b_2, slice a_2 n_2 m_2] ∧
 CallA Try.prog fn_ref01_Div [agg #[Value.bool b, slice a n m], agg #[Value.bool b_2, slice a_2 n_2 m_2], Value.bool up] h fun (v : Value) (h : Heap) =>
 ∃ (b : Bool),
 ∃ (a : Option Addr),
 ∃ (n : Nat),
 ∃ (m : Nat),
 v = agg #[Value.bool b, slice a n m] ∧
 CallA Try.prog fn_ref01_Fit [agg #[Value.bool b, slice a n m]] h fun (v : Value) (h : Heap) =>
 ∃ (n : Int), ∃ (n_3 : Int), v = tuple #[int IntKind.i64 n, int IntKind.i64 n_3] ∧ Ret h K (tuple #[int IntKind.i64 n, int IntKind.i64 n_3]))
theorem F_ref01_MulDiv (a : Int) (b : Int) (c : Int) (up : Bool) (h : Heap) (K : Value → Heap → Prop) (k : F_ref01_MulDivT a b c up h K) : CallA Try.prog fn_ref01_MulDiv [int IntKind.i64 a, int IntKind.i64 b, int IntKind.i64 c, Value.bool up] h K :=
 CallA.of_ev (cs := []) Try.func107 (by kernel_rfl) (fun _ _ => Try.call107 _ _) mixed (by kernel_rfl) (by kernel_rfl) k
end Go.Proofs.Ytkcogdmddhkldaa
