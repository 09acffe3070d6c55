import Derived.Test.YtghdadniddoboaaM03
namespace Go.Proofs.Ytghdadniddoboaa
open Go Go.Sy Go.Value
set_option linter.unusedVariables false
set_option maxRecDepth 100000
def F_ref01_digitT (a_0 : Bool) (a_1 : Option Addr) (a_1n : Nat) (a_1c : Nat) (i : Int) (h : Heap) (K : Value → Heap → Prop) : Prop :=
 newB h [Value.bool a_0, slice a_1 a_1n a_1c] 102 fun (r : Nat) (h : Heap) =>
 ∃ (a : Option Addr),
 ∃ (n : Nat),
 ∃ (m : Nat),
 Heap.cell h r 1 = some (slice a n m) ∧
 Br (decide (i < (↑n : Int)))
 (∃ (a : Option Addr),
 ∃ (n : Nat),
 ∃ (m : Nat),
 Heap.cell h r 1 = some (slice a n m) ∧ 0 ≤ i ∧ i < (↑n : Int) ∧ withAddr a fun (b o : Nat) => ∃ (n : Int), Heap.cell h b (o + Int.toNat i) = some (int IntKind.i64 n) ∧ Ret h K (int IntKind.i64 n))
 (Ret h K (int IntKind.i64 0))
theorem F_ref01_digit (a_0 : Bool) (a_1 : Option Addr) (a_1n : Nat) (a_1c : Nat) (i : Int) (h : Heap) (K : Value → Heap → Prop) (k : F_ref01_digitT a_0 a_1 a_1n a_1c i h K) : CallA Try.prog fn_ref01_digit [agg #[Value.bool a_0, slice a_1 a_1n a_1c], int IntKind.i64 i] h K :=
 CallA.of_ev (cs := []) Try.func109 (by kernel_rfl) (fun _ _ => Try.call109 _ _) mixed (by kernel_rfl) (by kernel_rfl) k
def L_ref01_trim_0 (a : Nat) (t2 : Nat) (n : Int) (h : Heap) (K : Value → Heap → Prop) : Prop :=
 LoopAt Try.prog Try.f110 110 (loopK Try.f110 0) (sp 30 [(1, pointer (some { block := a, off := 0 })), (2, pointer (some { block := t2, off := 0 })), (3, int IntKind.i64 n)]) h K
def L_ref01_trim_0T (a : Nat) (t2 : Nat) (n : Int) (h : Heap) (K : Value → Heap → Prop) : Prop :=
 Br (decide (n > 0))
 (∃ (a_1 : Option Addr),
 ∃ (n_1 : Nat),
 ∃ (m : Nat),
 Heap.cell h a 1 = some (slice a_1 n_1 m) ∧
 0 ≤ IntKind.wrap IntKind.i64 (n - 1) ∧
 IntKind.wrap IntKind.i64 (n - 1) < (↑n_1 : Int) ∧
 withAddr a_1 fun (b o : Nat) =>
 ∃ (n_2 : Int),
 Heap.cell h b (o + Int.toNat (IntKind.wrap IntKind.i64 (n - 1))) = some (int IntKind.i64 n_2) ∧
 Br (n_2 == 0) (L_ref01_trim_0 a t2 (IntKind.wrap IntKind.i64 (n - 1)) h K)
 (Br (n == 0)
 (Heap.canSt h t2 0 2 ∧
 ∃ (b : Bool),
 Heap.cell (Heap.setN h t2 0 [Value.bool false, slice none 0 0]) t2 0 = some (Value.bool b) ∧
 ∃ (a : Option Addr),
 ∃ (n : Nat),
 ∃ (m : Nat),
 Heap.cell (Heap.setN h t2 0 [Value.bool false, slice none 0 0]) t2 1 = some (slice a n m) ∧
 Ret (Heap.setN h t2 0 [Value.bool false, slice none 0 0]) K (agg #[Value.bool b, slice a n m]))
 (∃ (b : Bool),
 Heap.cell h a 0 = some (Value.bool b) ∧
 ∃ (a_2 : Option Addr),
 ∃ (n_3 : Nat),
 ∃ (m : Nat),
 Heap.cell h a 1 = some (slice a_2 n_3 m) ∧
 0 ≤ n ∧
 n ≤ (↑m : Int) ∧
 Heap.canSt h t2 0 2 ∧
 ∃ (b_1 : Bool),
 Heap.cell (Heap.setN h t2 0 [Value.bool b, slice a_2 (Int.toNat n) m]) t2 0 = some (Value.bool b_1) ∧
 ∃ (a : Option Addr),
 ∃ (n_4 : Nat),
 ∃ (m_1 : Nat),
 Heap.cell (Heap.setN h t2 0 [Value.bool b, slice a_2 (Int.toNat n) m]) t2 1 = some (slice a n_4 m_1) ∧
 Ret (Heap.setN h t2 0 [Value.bool b, slice a_2 (Int.toNat n) m]) K (agg #[Value.bool b_1, slice a n_4 m_1]))))
 (Br (n == 0)
 (Heap.canSt h t2 0 2 ∧
 ∃ (b : Bool),
 Heap.cell (Heap.setN h t2 0 [Value.bool false, slice none 0 0]) t2 0 = some (Value.bool b) ∧
 ∃ (a : Option Addr),
 ∃ (n : Nat),
 ∃ (m : Nat), Heap.cell (Heap.setN h t2 0 [Value.bool false, slice none 0 0]) t2 1 = some (slice a n m) ∧ Ret (Heap.setN h t2 0 [Value.bool false, slice none 0 0]) K (agg #[Value.bool b, slice a n m]))
 (∃ (b : Bool),
 Heap.cell h a 0 = some (Value.bool b) ∧
 ∃ (a_1 : Option Addr),
 ∃ (n_1 : Nat),
 ∃ (m : Nat),
 Heap.cell h a 1 = some (slice a_1 n_1 m) ∧
 0 ≤ n ∧
 n ≤ (↑m : Int) ∧
 Heap.canSt h t2 0 2 ∧
 ∃ (b_1 : Bool),
 Heap.cell (Heap.setN h t2 0 [Value.bool b, slice a_1 (Int.toNat n) m]) t2 0 = some (Value.bool b_1) ∧
 ∃ (a : Option Addr),
 ∃ (n_2 : Nat),
 ∃ (m_1 : Nat),
 Heap.cell (Heap.setN h t2 0 [Value.bool b, slice a_1 (Int.toNat n) m]) t2 1 = some (slice a n_2 m_1) ∧
 Ret (Heap.setN h t2 0 [Value.bool b, slice a_1 (Int.toNat n) m]) K (agg #[Value.bool b_1, slice a n_2 m_1])))
theorem L_ref01_trim_0r (a : Nat) (t2 : Nat) (n : Int) (h : Heap) (K : Value → Heap → Prop) (k : L_ref01_trim_0T a t2 n h K) : L_ref01_trim_0 a t2 n h K :=
 LoopAt.of_ev (cs := []) Try.func110 mixed (fun junk => by kernel_rfl) k
def F_ref01_trimT (a_0 : Bool) (a_1 : Option Addr) (a_1n : Nat) (a_1c : Nat) (h : Heap) (K : Value → Heap → Prop) : Prop :=
 newB h [Value.bool a_0, slice a_1 a_1n a_1c] 102 fun (r : Nat) (h : Heap) =>
 newB h [Value.bool false, slice none 0 0] 102 fun (r_1 : Nat) (h : Heap) => ∃ (a : Option Addr), ∃ (n : Nat), ∃ (m : Nat), Heap.cell h r 1 = some (slice a n m) ∧ L_ref01_trim_0 r r_1 (↑n : Int) h K
theorem F_ref01_trim (a_0 : Bool) (a_1 : Option Addr) (a_1n : Nat) (a_1c : Nat) (h : Heap) (K : Value → Heap → Prop) (k : F_ref01_trimT a_0 a_1 a_1n a_1c h K) : CallA Try.prog fn_ref01_trim [agg #[Value.bool a_0, slice a_1 a_1n a_1c]] h K :=
 CallA.of_ev (cs := []) Try.func110 (by kernel_rfl) (fun _ _ => Try.call110 _ _) mixed (by kernel_rfl) (by kernel_rfl) k
def L_ref01_larger_0 (a : Nat) (b : Nat) (i : Int) (h : Heap) (K : Value → Heap → Prop) : Prop :=
 LoopAt Try.prog Try.f111 111 (loopK Try.f111 0) (sp 32 [(2, pointer (some { block := a, off := 0 })), (3, pointer (some { block := b, off := 0 })), (5, int IntKind.i64 i)]) h K
def L_ref01_larger_0T (a : Nat) (b : Nat) (i : Int) (h : Heap) (K : Value → Heap → Prop) : Prop :=
 Br (decide (i ≥ 0))
 (∃ (b_1 : Bool),
 Heap.cell h a 0 = some (Value.bool b_1) ∧
 ∃ (a_1 : Option Addr),
 ∃ (n : Nat),
 ∃ (m : Nat),
 Heap.cell h a 1 = some (slice a_1 n m) ∧
 ∃ (b_2 : Bool),
 Heap.cell h b 0 = some (Value.bool b_2) ∧
 ∃ (a_2 : Option Addr),
 ∃ (n_1 : Nat),
 ∃ (m_1 : Nat),
 Heap.cell h b 1 = some (slice a_2 n_1 m_1) ∧
 CallA Try.prog fn_ref01_digit [agg #[Value.bool b_1, slice a_1 n m], int IntKind.i64 i] h fun (v : Value) (h_1 : Heap) =>
 ∃ (n : Int),
 v = int IntKind.i64 n ∧
 (Heap.le h h_1 ∨ Keeps [b] h h_1) ∧
 CallA Try.prog fn_ref01_digit [agg #[Value.bool b_2, slice a_2 n_1 m_1], int IntKind.i64 i] h_1 fun (v : Value) (h : Heap) =>
 ∃ (n_2 : Int),
 v = int IntKind.i64 n_2 ∧
 Br (decide (n > n_2)) (Ret h K (int IntKind.i64 1))
 (∃ (b_3 : Bool),
 Heap.cell h a 0 = some (Value.bool b_3) ∧
 ∃ (a_3 : Option Addr),
 ∃ (n : Nat),
 ∃ (m : Nat),
 Heap.cell h a 1 = some (slice a_3 n m) ∧
 ∃ (b_4 : Bool),
 Heap.cell h b 0 = some (Value.bool b_4) ∧
 ∃ (a_4 : Option Addr),
 ∃ (n_3 : Nat),
 ∃ (m_2 : Nat),
 Heap.cell h b 1 = some (slice a_4 n_3 m_2) ∧
 CallA Try.prog fn_ref01_digit [agg #[Value.bool b_3, slice a_3 n m], int IntKind.i64 i] h fun (v : Value) (h_2 : Heap) =>
 ∃ (n : Int),
 v = int IntKind.i64 n ∧
 (Heap.le h h_2 ∨ Keeps [b] h h_2) ∧
 CallA Try.prog fn_ref01_digit [agg #[Value.bool b_4, slice a_4 n_3 m_2], int IntKind.i64 i] h_2 fun (v : Value) (h : Heap) =>
 ∃ (n_4 : Int),
 v = int IntKind.i64 n_4 ∧ Br (decide (n < n_4)) (Ret h K (int IntKind.i64 (-1))) (L_ref01_larger_0 a b (IntKind.wrap IntKind.i64 (i - 1)) h K)))
 (Ret h K (int IntKind.i64 0))
theorem L_ref01_larger_0r (a : Nat) (b : Nat) (i : Int) (h : Heap) (K : Value → Heap → Prop) (k : L_ref01_larger_0T a b i h K) : L_ref01_larger_0 a b i h K :=
 LoopAt.of_ev (cs := []) Try.func111 mixed (fun junk => by kernel_rfl) k
def F_ref01_largerT (a_0 : Bool) (a_1 : Option Addr) (a_1n : Nat) (a_1c : Nat) (b_0 : Bool) (b_1 : Option Addr) (b_1n : Nat) (b_1c : Nat) (h : Heap) (K : Value → Heap → Prop) : Prop :=
 newB h [Value.bool a_0, slice a_1 a_1n a_1c] 102 fun (r : Nat) (h : Heap) =>
 newB h [Value.bool b_0, slice b_1 b_1n b_1c] 102 fun (r_1 : Nat) (h : Heap) =>
 ∃ (a : Option Addr),
 ∃ (n : Nat),
 ∃ (m : Nat),
 Heap.cell h r 1 = some (slice a n m) ∧
 ∃ (a : Option Addr), ∃ (n_1 : Nat), ∃ (m : Nat), Heap.cell h r_1 1 = some (slice a n_1 m) ∧ L_ref01_larger_0 r r_1 (IntKind.wrap IntKind.i64 ((if (↑n_1 : Int) > (↑n : Int) then (↑n_1 : Int) else (↑n : Int)) - 1)) h K
theorem F_ref01_larger (a_0 : Bool) (a_1 : Option Addr) (a_1n : Nat) (a_1c : Nat) (b_0 : Bool) (b_1 : Option Addr) (b_1n : Nat) (b_1c : Nat) (h : Heap) (K : Value → Heap → Prop) (k : F_ref01_largerT a_0 a_1 a_1n a_1c b_0 b_1 b_1n b_1c h K) : CallA Try.prog fn_ref01_larger [agg #[Value.bool a_0, slice a_1 a_1n a_1c], agg #[Value.bool b_0, slice b_1 b_1n b_1c]] h K :=
 CallA.of_ev (cs := []) Try.func111 (by kernel_rfl) (fun _ _ => Try.call111 _ _) mixed (by kernel_rfl) (by kernel_rfl) k
def F_ref01_TurnedT (a_0 : Bool) (a_1 : Option Addr) (a_1n : Nat) (a_1c : Nat) (h : Heap) (K : Value → Heap → Prop) : Prop :=
 newB h [Value.bool a_0, slice a_1 a_1n a_1c] 102 fun (r : Nat) (h : Heap) =>
 newB h [Value.bool false, slice none 0 0] 102 fun (r_1 : Nat) (h : Heap) =>
 ∃ (b : Bool),
 Heap.cell h r 0 = some (Value.bool b) ∧
 ∃ (a : Option Addr),
 ∃ (n : Nat),
 ∃ (m : Nat),
 Heap.cell h r 1 = some (slice a n m) ∧
 CallA Try.prog fn_ref01_trim [agg #[Value.bool !b, slice a n m]] h fun (v : Value) (h : Heap) =>
 ∃ (b : Bool),
 ∃ (a : Option Addr),
 ∃ (n : Nat),
 ∃ (m : Nat),
 v = agg #[Value.bool b, slice a n m] ∧
 Heap.canSt h r_1 0 2 ∧
 ∃ (b_1 : Bool),
 Heap.cell (Heap.setN h r_1 0 [Value.bool b, slice a n m]) r_1 0 = some (Value.bool b_1) ∧
 ∃ (a_2 : Option Addr),
 ∃ (n_1 : Nat),
 ∃ (m_1 : Nat),
 Heap.cell (Heap.setN h r_1 0 [Value.bool b, slice a n m]) r_1 1 = some (slice a_2 n_1 m_1) ∧
 Ret (Heap.setN h r_1 0 [Value.bool b, slice a n m]) K (agg #[Value.bool b_1, slice a_2 n_1 m_1])
theorem F_ref01_Turned (a_0 : Bool) (a_1 : Option Addr) (a_1n : Nat) (a_1c : Nat) (h : Heap) (K : Value → Heap → Prop) (k : F_ref01_TurnedT a_0 a_1 a_1n a_1c h K) : CallA Try.prog fn_ref01_Turned [agg #[Value.bool a_0, slice a_1 a_1n a_1c]] h K :=
 CallA.of_ev (cs := []) Try.func65 (by kernel_rfl) (fun _ _ => Try.call65 _ _) mixed (by kernel_rfl) (by kernel_rfl) k
def L_ref01_Of_0 (n : Int) (t2 : Nat) (out : Nat) (h : Heap) (K : Value → Heap → Prop) : Prop :=
 LoopAt Try.prog Try.f62 62 (loopK Try.f62 0) (sp 25 [(0, int IntKind.i64 n), (2, pointer (some { block := t2, off := 0 })), (3, pointer (some { block := out, off := 0 }))]) h K
def L_ref01_Of_0T (n : Int) (t2 : Nat) (out : Nat) (h : Heap) (K : Value → Heap → Prop) : Prop :=
 Br (n != 0)
 (Br (decide (Int.tmod n 10000 < 0))
 (∃ (a : Option Addr),
 ∃ (n_1 : Nat),
 ∃ (m : Nat),
 Heap.cell h out 1 = some (slice a n_1 m) ∧
 newB h [int IntKind.i64 (IntKind.wrap IntKind.i64 (0 - Int.tmod n 10000))] 3 fun (r : Nat) (h : Heap) =>
 AppA [int IntKind.i64 0] 3 h a n_1 m 1 (some { block := r, off := 0 }) fun (ap : Option Addr) (cp : Nat) (h : Heap) =>
 Heap.canSt h out 1 1 ∧ L_ref01_Of_0 (IntKind.wrap IntKind.i64 (Int.tdiv n 10000)) t2 out (Heap.setN h out 1 [slice ap (n_1 + 1) cp]) K)
 (∃ (a : Option Addr),
 ∃ (n_1 : Nat),
 ∃ (m : Nat),
 Heap.cell h out 1 = some (slice a n_1 m) ∧
 newB h [int IntKind.i64 (Int.tmod n 10000)] 3 fun (r : Nat) (h : Heap) =>
 AppA [int IntKind.i64 0] 3 h a n_1 m 1 (some { block := r, off := 0 }) fun (ap : Option Addr) (cp : Nat) (h : Heap) =>
 Heap.canSt h out 1 1 ∧ L_ref01_Of_0 (IntKind.wrap IntKind.i64 (Int.tdiv n 10000)) t2 out (Heap.setN h out 1 [slice ap (n_1 + 1) cp]) K))
 (∃ (b : Bool),
 Heap.cell h out 0 = some (Value.bool b) ∧
 ∃ (a : Option Addr),
 ∃ (n : Nat),
 ∃ (m : Nat),
 Heap.cell h out 1 = some (slice a n m) ∧
 Heap.canSt h t2 0 2 ∧
 ∃ (b_1 : Bool),
 Heap.cell (Heap.setN h t2 0 [Value.bool b, slice a n m]) t2 0 = some (Value.bool b_1) ∧
 ∃ (a_1 : Option Addr),
 ∃ (n_1 : Nat),
 ∃ (m_1 : Nat),
 Heap.cell (Heap.setN h t2 0 [Value.bool b, slice a n m]) t2 1 = some (slice a_1 n_1 m_1) ∧ Ret (Heap.setN h t2 0 [Value.bool b, slice a n m]) K (agg #[Value.bool b_1, slice a_1 n_1 m_1]))
theorem L_ref01_Of_0r (n : Int) (t2 : Nat) (out : Nat) (h : Heap) (K : Value → Heap → Prop) (k : L_ref01_Of_0T n t2 out h K) : L_ref01_Of_0 n t2 out h K :=
 LoopAt.of_ev (cs := []) Try.func62 mixed (fun junk => by kernel_rfl) k
def F_ref01_OfT (n : Int) (h : Heap) (K : Value → Heap → Prop) : Prop :=
 newB h [Value.bool false, slice none 0 0] 102 fun (r : Nat) (h : Heap) =>
 newB h [Value.bool false, slice none 0 0] 102 fun (r_1 : Nat) (h : Heap) => Heap.canSt h r_1 0 2 ∧ L_ref01_Of_0 n r r_1 (Heap.setN h r_1 0 [Value.bool (decide (n < 0)), slice none 0 0]) K
theorem F_ref01_Of (n : Int) (h : Heap) (K : Value → Heap → Prop) (k : F_ref01_OfT n h K) : CallA Try.prog fn_ref01_Of [int IntKind.i64 n] h K :=
 CallA.of_ev (cs := []) Try.func62 (by kernel_rfl) (fun _ _ => Try.call62 _ _) mixed (by kernel_rfl) (by kernel_rfl) k
def L_ref01_Fit_0 (a : Nat) (n : Int) (i : Int) (h : Heap) (K : Value → Heap → Prop) : Prop :=
 LoopAt Try.prog Try.f60 60 (loopK Try.f60 0) (sp 43 [(1, pointer (some { block := a, off := 0 })), (4, int IntKind.i64 n), (5, int IntKind.i64 i)]) h K
def L_ref01_Fit_0T (a : Nat) (n : Int) (i : Int) (h : Heap) (K : Value → Heap → Prop) : Prop :=
 Br (decide (i ≥ 0))
 (∃ (b : Bool),
 Heap.cell h a 0 = some (Value.bool b) ∧
 Br b
 (∃ (a_1 : Option Addr),
 ∃ (n_1 : Nat),
 ∃ (m : Nat),
 Heap.cell h a 1 = some (slice a_1 n_1 m) ∧
 0 ≤ i ∧
 i < (↑n_1 : Int) ∧
 withAddr a_1 fun (b o : Nat) =>
 ∃ (n_2 : Int), Heap.cell h b (o + Int.toNat i) = some (int IntKind.i64 n_2) ∧ L_ref01_Fit_0 a (IntKind.wrap IntKind.i64 (IntKind.wrap IntKind.i64 (10000 * n) - n_2)) (IntKind.wrap IntKind.i64 (i - 1)) h K)
 (∃ (a_1 : Option Addr),
 ∃ (n_1 : Nat),
 ∃ (m : Nat),
 Heap.cell h a 1 = some (slice a_1 n_1 m) ∧
 0 ≤ i ∧
 i < (↑n_1 : Int) ∧
 withAddr a_1 fun (b o : Nat) =>
 ∃ (n_2 : Int), Heap.cell h b (o + Int.toNat i) = some (int IntKind.i64 n_2) ∧ L_ref01_Fit_0 a (IntKind.wrap IntKind.i64 (IntKind.wrap IntKind.i64 (10000 * n) + n_2)) (IntKind.wrap IntKind.i64 (i - 1)) h K))
 (Ret h K (tuple #[int IntKind.i64 n, int IntKind.i64 0]))
theorem L_ref01_Fit_0r (a : Nat) (n : Int) (i : Int) (h : Heap) (K : Value → Heap → Prop) (k : L_ref01_Fit_0T a n i h K) : L_ref01_Fit_0 a n i h K :=
 LoopAt.of_ev (cs := []) Try.func60 mixed (fun junk => by kernel_rfl) k
def F_ref01_FitT (a_0 : Bool) (a_1 : Option Addr) (a_1n : Nat) (a_1c : Nat) (h : Heap) (K : Value → Heap → Prop) : Prop :=
 newB h [Value.bool a_0, slice a_1 a_1n a_1c] 102 fun (r : Nat) (h : Heap) =>
 ∃ (b : Bool),
 Heap.cell h r 0 = some (Value.bool b) ∧
 ∃ (a : Option Addr),
 ∃ (n : Nat),
 ∃ (m : Nat),
 Heap.cell h r 1 = some (slice a n m) ∧
 CallA Try.prog fn_ref01_Of [int IntKind.i64 (-9223372036854775808)] h fun (v : Value) (h_1 : Heap) =>
 ∃ (b_1 : Bool),
 ∃ (a_2 : Option Addr),
 ∃ (n_1 : Nat),
 ∃ (m_1 : Nat),
 v = agg #[Value.bool b_1, slice a_2 n_1 m_1] ∧
 (Heap.le h h_1 ∨ Keeps [r] h h_1) ∧
 CallA Try.prog fn_ref01_Cmp [agg #[Value.bool b, slice a n m], agg #[Value.bool b_1, slice a_2 n_1 m_1]] h_1 fun (v : Value) (h : Heap) =>
 ∃ (n : Int),
 v = int IntKind.i64 n ∧
 Br (decide (n < 0)) (Ret h K (tuple #[int IntKind.i64 0, int IntKind.i64 3]))
 (∃ (b : Bool),
 Heap.cell h r 0 = some (Value.bool b) ∧
 ∃ (a : Option Addr),
 ∃ (n : Nat),
 ∃ (m : Nat),
 Heap.cell h r 1 = some (slice a n m) ∧
 CallA Try.prog fn_ref01_Of [int IntKind.i64 9223372036854775807] h fun (v : Value) (h_2 : Heap) =>
 ∃ (b_2 : Bool),
 ∃ (a_3 : Option Addr),
 ∃ (n_2 : Nat),
 ∃ (m_2 : Nat),
 v = agg #[Value.bool b_2, slice a_3 n_2 m_2] ∧
 (Heap.le h h_2 ∨ Keeps [r] h h_2) ∧
 CallA Try.prog fn_ref01_Cmp [agg #[Value.bool b, slice a n m], agg #[Value.bool b_2, slice a_3 n_2 m_2]] h_2 fun (v : Value) (h : Heap) =>
 ∃ (n : Int),
 v = int IntKind.i64 n ∧
 Br (decide (n > 0)) (Ret h K (tuple #[int IntKind.i64 0, int IntKind.i64 3]))
 (∃ (a : Option Addr), ∃ (n : Nat), ∃ (m : Nat), Heap.cell h r 1 = some (slice a n m) ∧ L_ref01_Fit_0 r 0 (IntKind.wrap IntKind.i64 ((↑n : Int) - 1)) h K))
theorem F_ref01_Fit (a_0 : Bool) (a_1 : Option Addr) (a_1n : Nat) (a_1c : Nat) (h : Heap) (K : Value → Heap → Prop) (k : F_ref01_FitT a_0 a_1 a_1n a_1c h K) : CallA Try.prog fn_ref01_Fit [agg #[Value.bool a_0, slice a_1 a_1n a_1c]] h K :=
 CallA.of_ev (cs := []) Try.func60 (by kernel_rfl) (fun _ _ => Try.call60 _ _) mixed (by kernel_rfl) (by kernel_rfl) k
def F_ref01_CmpT (a_0 : Bool) (a_1 : Option Addr) (a_1n : Nat) (a_1c : Nat) (b_0 : Bool) (b_1 : Option Addr) (b_1n : Nat) (b_1c : Nat) (h : Heap) (K : Value → Heap → Prop) : Prop :=
 newB h [Value.bool a_0, slice a_1 a_1n a_1c] 102 fun (r : Nat) (h : Heap) =>
 newB h [Value.bool b_0, slice b_1 b_1n b_1c] 102 fun (r_1 : Nat) (h : Heap) =>
 ∃ (b : Bool),
 Heap.cell h r 0 = some (Value.bool b) ∧
 ∃ (a : Option Addr),
 ∃ (n : Nat),
 ∃ (m : Nat),
 Heap.cell h r 1 = some (slice a n m) ∧
 ∃ (b_2 : Bool),
 Heap.cell h r_1 0 = some (Value.bool b_2) ∧
 ∃ (a_2 : Option Addr),
 ∃ (n_1 : Nat),
 ∃ (m_1 : Nat),
 Heap.cell h r_1 1 = some (slice a_2 n_1 m_1) ∧
 CallA Try.prog fn_ref01_Turned [agg #[Value.bool b_2, slice a_2 n_1 m_1]] h fun (v : Value) (h_1 : Heap) =>
 ∃ (b_3 : Bool),
 ∃ (a_3 : Option Addr),
 ∃ (n_2 : Nat),
 ∃ (m_2 : Nat),
 v = agg #[Value.bool b_3, slice a_3 n_2 m_2] ∧
 (Heap.le h h_1 ∨ Keeps [r] h h_1) ∧
 CallA Try.prog fn_ref01_Add [agg #[Value.bool b, slice a n m], agg #[Value.bool b_3, slice a_3 n_2 m_2]] h_1 fun (v : Value) (h : Heap) =>
 ∃ (b : Bool),
 ∃ (a : Option Addr),
 ∃ (n : Nat),
 ∃ (m : Nat),
 v = agg #[Value.bool b, slice a n m] ∧
 newB h [Value.bool false, slice none 0 0] 102 fun (r : Nat) (h : Heap) =>
 Heap.canSt h r 0 2 ∧
 ∃ (a_4 : Option Addr),
 ∃ (n_3 : Nat),
 ∃ (m_3 : Nat),
 Heap.cell (Heap.setN h r 0 [Value.bool b, slice a n m]) r 1 = some (slice a_4 n_3 m_3) ∧
 Br ((↑n_3 : Int) == 0) (Ret (Heap.setN h r 0 [Value.bool b, slice a n m]) K (int IntKind.i64 0))
 (∃ (b_4 : Bool),
 Heap.cell (Heap.setN h r 0 [Value.bool b, slice a n m]) r 0 = some (Value.bool b_4) ∧
 Br b_4 (Ret (Heap.setN h r 0 [Value.bool b, slice a n m]) K (int IntKind.i64 (-1)))
 (Ret (Heap.setN h r 0 [Value.bool b, slice a n m]) K (int IntKind.i64 1)))
theorem F_ref01_Cmp (a_0 : Bool) (a_1 : Option Addr) (a_1n : Nat) (a_1c : Nat) (b_0 : Bool) (b_1 : Option Addr) (b_1n : Nat) (b_1c : Nat) (h : Heap) (K : Value → Heap → Prop) (k : F_ref01_CmpT a_0 a_1 a_1n a_1c b_0 b_1 b_1n b_1c h K) : CallA Try.prog fn_ref01_Cmp [agg #[Value.bool a_0, slice a_1 a_1n a_1c], agg #[Value.bool b_0, slice b_1 b_1n b_1c]] h K :=
 CallA.of_ev (cs := []) Try.func66 (by kernel_rfl) (fun _ _ => Try.call66 _ _) mixed (by kernel_rfl) (by kernel_rfl) k
def L_ref01_Total_0 (l : Option Addr) (ln : Nat) (lc : Nat) (t2 : Nat) (out : Nat) (i : Int) (h : Heap) (K : Value → Heap → Prop) : Prop :=
 LoopAt Try.prog Try.f59 59 (loopK Try.f59 0) (sp 20 [(0, slice l ln lc), (2, pointer (some { block := t2, off := 0 })), (3, pointer (some { block := out, off := 0 })), (4, int IntKind.i64 i)]) h K
def L_ref01_Total_0T (l : Option Addr) (ln : Nat) (lc : Nat) (t2 : Nat) (out : Nat) (i : Int) (h : Heap) (K : Value → Heap → Prop) : Prop :=
 Br (decide (i < (↑ln : Int)))
 (∃ (b : Bool),
 Heap.cell h out 0 = some (Value.bool b) ∧
 ∃ (a : Option Addr),
 ∃ (n : Nat),
 ∃ (m : Nat),
 Heap.cell h out 1 = some (slice a n m) ∧
 0 ≤ i ∧
 i < (↑ln : Int) ∧
 withAddr l fun (b_1 o : Nat) =>
 ∃ (n_1 : Int),
 Heap.cell h b_1 (o + Int.toNat i) = some (int IntKind.i64 n_1) ∧
 CallA Try.prog fn_ref01_Of [int IntKind.i64 n_1] h fun (v : Value) (h_1 : Heap) =>
 ∃ (b_2 : Bool),
 ∃ (a_1 : Option Addr),
 ∃ (n_2 : Nat),
 ∃ (m_1 : Nat),
 v = agg #[Value.bool b_2, slice a_1 n_2 m_1] ∧
 (Heap.le h h_1 ∨ Keeps [out] h h_1) ∧
 CallA Try.prog fn_ref01_Add [agg #[Value.bool b, slice a n m], agg #[Value.bool b_2, slice a_1 n_2 m_1]] h_1 fun (v : Value) (h : Heap) =>
 ∃ (b : Bool),
 ∃ (a : Option Addr),
 ∃ (n : Nat),
 ∃ (m : Nat),
 v = agg #[Value.bool b, slice a n m] ∧ Heap.canSt h out 0 2 ∧ L_ref01_Total_0 l ln lc t2 out (IntKind.wrap IntKind.i64 (i + 1)) (Heap.setN h out 0 [Value.bool b, slice a n m]) K)
 (∃ (b : Bool),
 Heap.cell h out 0 = some (Value.bool b) ∧
 ∃ (a : Option Addr),
 ∃ (n : Nat),
 ∃ (m : Nat),
 Heap.cell h out 1 = some (slice a n m) ∧
 Heap.canSt h t2 0 2 ∧
 ∃ (b_1 : Bool),
 Heap.cell (Heap.setN h t2 0 [Value.bool b, slice a n m]) t2 0 = some (Value.bool b_1) ∧
 ∃ (a_1 : Option Addr),
 ∃ (n_1 : Nat),
 ∃ (m_1 : Nat),
 Heap.cell (Heap.setN h t2 0 [Value.bool b, slice a n m]) t2 1 = some (slice a_1 n_1 m_1) ∧ Ret (Heap.setN h t2 0 [Value.bool b, slice a n m]) K (agg #[Value.bool b_1, slice a_1 n_1 m_1]))
theorem L_ref01_Total_0r (l : Option Addr) (ln : Nat) (lc : Nat) (t2 : Nat) (out : Nat) (i : Int) (h : Heap) (K : Value → Heap → Prop) (k : L_ref01_Total_0T l ln lc t2 out i h K) : L_ref01_Total_0 l ln lc t2 out i h K :=
 LoopAt.of_ev (cs := []) Try.func59 mixed (fun junk => by kernel_rfl) k
def F_ref01_TotalT (l : Option Addr) (ln : Nat) (lc : Nat) (h : Heap) (K : Value → Heap → Prop) : Prop :=
 newB h [Value.bool false, slice none 0 0] 102 fun (r : Nat) (h : Heap) =>
 newB h [Value.bool false, slice none 0 0] 102 fun (r_1 : Nat) (h : Heap) => Heap.canSt h r_1 0 2 ∧ L_ref01_Total_0 l ln lc r r_1 0 (Heap.setN h r_1 0 [Value.bool false, slice none 0 0]) K
theorem F_ref01_Total (l : Option Addr) (ln : Nat) (lc : Nat) (h : Heap) (K : Value → Heap → Prop) (k : F_ref01_TotalT l ln lc h K) : CallA Try.prog fn_ref01_Total [slice l ln lc] h K :=
 CallA.of_ev (cs := []) Try.func59 (by kernel_rfl) (fun _ _ => Try.call59 _ _) mixed (by kernel_rfl) (by kernel_rfl) k
def L_ref01_Chain_0 (a : Int) (l : Option Addr) (ln : Nat) (lc : Nat) (i : Int) (h : Heap) (K : Value → Heap → Prop) : Prop :=
 LoopAt Try.prog Try.f89 89 (loopK Try.f89 0) (sp 32 [(0, int IntKind.i64 a), (1, slice l ln lc), (6, int IntKind.i64 i)]) h K
def L_ref01_Chain_0T (a : Int) (l : Option Addr) (ln : Nat) (lc : Nat) (i : Int) (h : Heap) (K : Value → Heap → Prop) : Prop :=
 Br (decide (i < (↑ln : Int)))
 (0 ≤ i ∧
 i < (↑ln : Int) ∧
 withAddr l fun (b o : Nat) =>
 ∃ (n : Int),
 Heap.cell h b (o + Int.toNat i) = some (int IntKind.i64 n) ∧
 CallA Try.prog fn_ref01_Of [int IntKind.i64 a] h fun (v : Value) (h_1 : Heap) =>
 ∃ (b_1 : Bool),
 ∃ (a : Option Addr),
 ∃ (n_1 : Nat),
 ∃ (m : Nat),
 v = agg #[Value.bool b_1, slice a n_1 m] ∧
 (Heap.le h h_1 ∨ Keeps [b] h h_1) ∧
 CallA Try.prog fn_ref01_Of [int IntKind.i64 n] h_1 fun (v : Value) (h : Heap) =>
 ∃ (b : Bool),
 ∃ (a_1 : Option Addr),
 ∃ (n : Nat),
 ∃ (m_1 : Nat),
 v = agg #[Value.bool b, slice a_1 n m_1] ∧
 CallA Try.prog fn_ref01_Add [agg #[Value.bool b_1, slice a n_1 m], agg #[Value.bool b, slice a_1 n m_1]] h fun (v : Value) (h : Heap) =>
 ∃ (b : Bool),
 ∃ (a : Option Addr),
 ∃ (n : Nat),
 ∃ (m : Nat),
 v = agg #[Value.bool b, slice a n m] ∧
 CallA Try.prog fn_ref01_Fit [agg #[Value.bool b, slice a n m]] h fun (v : Value) (h : Heap) =>
 ∃ (n : Int),
 ∃ (n_2 : Int),
 v = tuple #[int IntKind.i64 n, int IntKind.i64 n_2] ∧
 Br (n_2 != 0) (Ret h K (tuple #[int IntKind.i64 0, int IntKind.i64 n_2])) (L_ref01_Chain_0 n l ln lc (IntKind.wrap IntKind.i64 (i + 1)) h K))
 (Ret h K (tuple #[int IntKind.i64 a, int IntKind.i64 0]))
theorem L_ref01_Chain_0r (a : Int) (l : Option Addr) (ln : Nat) (lc : Nat) (i : Int) (h : Heap) (K : Value → Heap → Prop) (k : L_ref01_Chain_0T a l ln lc i h K) : L_ref01_Chain_0 a l ln lc i h K :=
 LoopAt.of_ev (cs := []) Try.func89 mixed (fun junk => by kernel_rfl) k
def F_ref01_ChainT (a : Int) (l : Option Addr) (ln : Nat) (lc : Nat) (h : Heap) (K : Value → Heap → Prop) : Prop :=
 L_ref01_Chain_0 a l ln lc 0 h K
theorem F_ref01_Chain (a : Int) (l : Option Addr) (ln : Nat) (lc : Nat) (h : Heap) (K : Value → Heap → Prop) (k : F_ref01_ChainT a l ln lc h K) : CallA Try.prog fn_ref01_Chain [int IntKind.i64 a, slice l ln lc] h K :=
 CallA.of_ev (cs := []) Try.func89 (by kernel_rfl) (fun _ _ => Try.call89 _ _) mixed (by kernel_rfl) (by kernel_rfl) k
def F_ref01_MulDivT (a : Int) (b : Int) (c : Int) (up : Bool) (h : Heap) (K : Value → Heap → Prop) : Prop :=
 Br (decide (c < 1)) (Ret h K (tuple #[int IntKind.i64 0, int IntKind.i64 1]))
 (CallA Try.prog fn_ref01_Of [int IntKind.i64 a] h fun (v : Value) (h : Heap) =>
 ∃ (b_1 : Bool),
 ∃ (a : Option Addr),
 ∃ (n : Nat),
 ∃ (m : Nat),
 v = agg #[Value.bool b_1, slice a n m] ∧
 CallA Try.prog fn_ref01_Of [int IntKind.i64 b] h fun (v : Value) (h : Heap) =>
 ∃ (b : Bool),
 ∃ (a_1 : Option Addr),
 ∃ (n_1 : Nat),
 ∃ (m_1 : Nat),
 v = agg #[Value.bool b, slice a_1 n_1 m_1] ∧
 CallA Try.prog fn_ref01_Mul [agg #[Value.bool b_1, slice a n m], agg #[Value.bool b, slice a_1 n_1 m_1]] h fun (v : Value) (h : Heap) =>
 ∃ (b : Bool),
 ∃ (a : Option Addr),
 ∃ (n : Nat),
 ∃ (m : Nat),
 v = agg #[Value.bool b, slice a n m] ∧
 CallA Try.prog fn_ref01_Of [int IntKind.i64 c] h fun (v : Value) (h : Heap) =>
 ∃ (b_2 : Bool),
 ∃ (a_2 : Option Addr),
 ∃ (n_2 : Nat),
 ∃ (m_2 : Nat),
 v = agg #[Value.bool b_2, slice a_2 n_2 m_2] ∧
 CallA Try.prog fn_ref01_Div [agg #[Value.bool b, slice a n m], agg #[Value.bool b_2, slice a_2 n_2 m_2], Value.bool up] h fun (v : Value) (h : Heap) =>
 ∃ (b : Bool),
 ∃ (a : Option Addr),
 ∃ (n : Nat),
 ∃ (m : Nat),
 v = agg #[Value.bool b, slice a n m] ∧
 CallA Try.prog fn_ref01_Fit [agg #[Value.bool b, slice a n m]] h fun (v : Value) (h : Heap) =>
 ∃ (n : Int), ∃ (n_3 : Int), v = tuple #[int IntKind.i64 n, int IntKind.i64 n_3] ∧ Ret h K (tuple #[int IntKind.i64 n, int IntKind.i64 n_3]))
theorem F_ref01_MulDiv (a : Int) (b : Int) (c : Int) (up : Bool) (h : Heap) (K : Value → Heap → Prop) (k : F_ref01_MulDivT a b c up h K) : CallA Try.prog fn_ref01_MulDiv [int IntKind.i64 a, int IntKind.i64 b, int IntKind.i64 c, Value.bool up] h K :=
 CallA.of_ev (cs := []) Try.func121 (by kernel_rfl) (fun _ _ => Try.call121 _ _) mixed (by kernel_rfl) (by kernel_rfl) k
end Go.Proofs.Ytghdadniddoboaa

namespace Go.Proofs.Ytghdadniddoboaa
open Go Go.Sy Go.Value
set_option linter.unusedVariables false
set_option maxRecDepth 100000
def L_ref01_Add_0 (a : Nat) (b : Nat) (t4 : Nat) (out : Nat) (carry : Int) (i : Int) (h : Heap) (K : Value → Heap → Prop) : Prop :=
 LoopAt Try.prog Try.f64 64 (loopK Try.f64 0) (sp 85 [(2, pointer (some { block := a, off := 0 })), (3, pointer (some { block := b, off := 0 })), (4, pointer (some { block := t4, off := 0 })), (5, pointer (some { block := out, off := 0 })), (6, int IntKind.i64 carry),
 (7, int IntKind.i64 i)]) h K
def L_ref01_Add_1 (a : Nat) (b : Nat) (t4 : Nat) (out : Nat) (carry : Int) (i : Int) (h : Heap) (K : Value → Heap → Prop) : Prop :=
 LoopAt Try.prog Try.f64 64 (loopK Try.f64 1) (sp 85 [(2, pointer (some { block := a, off := 0 })), (3, pointer (some { block := b, off := 0 })), (4, pointer (some { block := t4, off := 0 })), (5, pointer (some { block := out, off := 0 })), (6, int IntKind.i64 carry),
 (8, int IntKind.i64 i)]) h K
def L_ref01_Add_0T (a : Nat) (b : Nat) (t4 : Nat) (out : Nat) (carry : Int) (i : Int) (h : Heap) (K : Value → Heap → Prop) : Prop :=
 ∃ (a_1 : Option Addr),
 ∃ (n : Nat),
 ∃ (m : Nat),
 Heap.cell h a 1 = some (slice a_1 n m) ∧
 ∃ (a_2 : Option Addr),
 ∃ (n_1 : Nat),
 ∃ (m : Nat),
 Heap.cell h b 1 = some (slice a_2 n_1 m) ∧
 Br (decide (i < IntKind.wrap IntKind.i64 ((if (↑n_1 : Int) > (↑n : Int) then (↑n_1 : Int) else (↑n : Int)) + 1)))
 (∃ (b_1 : Bool),
 Heap.cell h a 0 = some (Value.bool b_1) ∧
 ∃ (a_3 : Option Addr),
 ∃ (n : Nat),
 ∃ (m : Nat),
 Heap.cell h a 1 = some (slice a_3 n m) ∧
 ∃ (b_2 : Bool),
 Heap.cell h b 0 = some (Value.bool b_2) ∧
 ∃ (a_4 : Option Addr),
 ∃ (n_2 : Nat),
 ∃ (m_1 : Nat),
 Heap.cell h b 1 = some (slice a_4 n_2 m_1) ∧
 CallA Try.prog fn_ref01_digit [agg #[Value.bool b_1, slice a_3 n m], int IntKind.i64 i] h fun (v : Value) (h_1 : Heap) =>
 ∃ (n : Int),
 v = int IntKind.i64 n ∧
 (Heap.le h h_1 ∨ Keeps [b] h h_1) ∧
 CallA Try.prog fn_ref01_digit [agg #[Value.bool b_2, slice a_4 n_2 m_1], int IntKind.i64 i] h_1 fun (v : Value) (h : Heap) =>
 ∃ (n_3 : Int),
 v = int IntKind.i64 n_3 ∧
 ∃ (a_5 : Option Addr),
 ∃ (n_4 : Nat),
 ∃ (m : Nat),
 Heap.cell h out 1 = some (slice a_5 n_4 m) ∧
 newB h [int IntKind.i64 (Int.tmod (IntKind.wrap IntKind.i64 (IntKind.wrap IntKind.i64 (carry + n) + n_3)) 10000)] 3 fun (r : Nat) (h : Heap) =>
 AppA [int IntKind.i64 0] 3 h a_5 n_4 m 1 (some { block := r, off := 0 }) fun (ap : Option Addr) (cp : Nat) (h : Heap) =>
 Heap.canSt h out 1 1 ∧
 L_ref01_Add_0 a b t4 out (IntKind.wrap IntKind.i64 (Int.tdiv (IntKind.wrap IntKind.i64 (IntKind.wrap IntKind.i64 (carry + n) + n_3)) 10000))
 (IntKind.wrap IntKind.i64 (i + 1)) (Heap.setN h out 1 [slice ap (n_4 + 1) cp]) K)
 (∃ (b : Bool),
 Heap.cell h out 0 = some (Value.bool b) ∧
 ∃ (a : Option Addr),
 ∃ (n : Nat),
 ∃ (m : Nat),
 Heap.cell h out 1 = some (slice a n m) ∧
 CallA Try.prog fn_ref01_trim [agg #[Value.bool b, slice a n m]] h fun (v : Value) (h : Heap) =>
 ∃ (b : Bool),
 ∃ (a : Option Addr),
 ∃ (n : Nat),
 ∃ (m : Nat),
 v = agg #[Value.bool b, slice a n m] ∧
 Heap.canSt h t4 0 2 ∧
 ∃ (b_1 : Bool),
 Heap.cell (Heap.setN h t4 0 [Value.bool b, slice a n m]) t4 0 = some (Value.bool b_1) ∧
 ∃ (a_3 : Option Addr),
 ∃ (n_2 : Nat),
 ∃ (m_1 : Nat),
 Heap.cell (Heap.setN h t4 0 [Value.bool b, slice a n m]) t4 1 = some (slice a_3 n_2 m_1) ∧
 Ret (Heap.setN h t4 0 [Value.bool b, slice a n m]) K (agg #[Value.bool b_1, slice a_3 n_2 m_1]))
theorem L_ref01_Add_0r (a : Nat) (b : Nat) (t4 : Nat) (out : Nat) (carry : Int) (i : Int) (h : Heap) (K : Value → Heap → Prop) (k : L_ref01_Add_0T a b t4 out carry i h K) : L_ref01_Add_0 a b t4 out carry i h K :=
 LoopAt.of_ev (cs := []) Try.func64 mixed (fun junk => by kernel_rfl) k
def L_ref01_Add_1T (a : Nat) (b : Nat) (t4 : Nat) (out : Nat) (carry : Int) (i : Int) (h : Heap) (K : Value → Heap → Prop) : Prop :=
 ∃ (a_1 : Option Addr),
 ∃ (n : Nat),
 ∃ (m : Nat),
 Heap.cell h a 1 = some (slice a_1 n m) ∧
 Br (decide (i < (↑n : Int)))
 (∃ (b_1 : Bool),
 Heap.cell h a 0 = some (Value.bool b_1) ∧
 ∃ (a_2 : Option Addr),
 ∃ (n : Nat),
 ∃ (m : Nat),
 Heap.cell h a 1 = some (slice a_2 n m) ∧
 ∃ (b_2 : Bool),
 Heap.cell h b 0 = some (Value.bool b_2) ∧
 ∃ (a_3 : Option Addr),
 ∃ (n_1 : Nat),
 ∃ (m_1 : Nat),
 Heap.cell h b 1 = some (slice a_3 n_1 m_1) ∧
 CallA Try.prog fn_ref01_digit [agg #[Value.bool b_1, slice a_2 n m], int IntKind.i64 i] h fun (v : Value) (h_1 : Heap) =>
 ∃ (n : Int),
 v = int IntKind.i64 n ∧
 (Heap.le h h_1 ∨ Keeps [b] h h_1) ∧
 CallA Try.prog fn_ref01_digit [agg #[Value.bool b_2, slice a_3 n_1 m_1], int IntKind.i64 i] h_1 fun (v : Value) (h : Heap) =>
 ∃ (n_2 : Int),
 v = int IntKind.i64 n_2 ∧
 Br (decide (IntKind.wrap IntKind.i64 (IntKind.wrap IntKind.i64 (n - n_2) - carry) < 0))
 (∃ (a_4 : Option Addr),
 ∃ (n_3 : Nat),
 ∃ (m : Nat),
 Heap.cell h out 1 = some (slice a_4 n_3 m) ∧
 newB h [int IntKind.i64 (IntKind.wrap IntKind.i64 (IntKind.wrap IntKind.i64 (IntKind.wrap IntKind.i64 (n - n_2) - carry) + 10000))] 3 fun (r : Nat) (h : Heap) =>
 AppA [int IntKind.i64 0] 3 h a_4 n_3 m 1 (some { block := r, off := 0 }) fun (ap : Option Addr) (cp : Nat) (h : Heap) =>
 Heap.canSt h out 1 1 ∧ L_ref01_Add_1 a b t4 out 1 (IntKind.wrap IntKind.i64 (i + 1)) (Heap.setN h out 1 [slice ap (n_3 + 1) cp]) K)
 (∃ (a_4 : Option Addr),
 ∃ (n_3 : Nat),
 ∃ (m : Nat),
 Heap.cell h out 1 = some (slice a_4 n_3 m) ∧
 newB h [int IntKind.i64 (IntKind.wrap IntKind.i64 (IntKind.wrap IntKind.i64 (n - n_2) - carry))] 3 fun (r : Nat) (h : Heap) =>
 AppA [int IntKind.i64 0] 3 h a_4 n_3 m 1 (some { block := r, off := 0 }) fun (ap : Option Addr) (cp : Nat) (h : Heap) =>
 Heap.canSt h out 1 1 ∧ L_ref01_Add_1 a b t4 out 0 (IntKind.wrap IntKind.i64 (i + 1)) (Heap.setN h out 1 [slice ap (n_3 + 1) cp]) K))
 (∃ (b : Bool),
 Heap.cell h out 0 = some (Value.bool b) ∧
 ∃ (a : Option Addr),
 ∃ (n : Nat),
 ∃ (m : Nat),
 Heap.cell h out 1 = some (slice a n m) ∧
 CallA Try.prog fn_ref01_trim [agg #[Value.bool b, slice a n m]] h fun (v : Value) (h : Heap) =>
 ∃ (b : Bool),
 ∃ (a : Option Addr),
 ∃ (n : Nat),
 ∃ (m : Nat),
 v = agg #[Value.bool b, slice a n m] ∧
 Heap.canSt h t4 0 2 ∧
 ∃ (b_1 : Bool),
 Heap.cell (Heap.setN h t4 0 [Value.bool b, slice a n m]) t4 0 = some (Value.bool b_1) ∧
 ∃ (a_2 : Option Addr),
 ∃ (n_1 : Nat),
 ∃ (m_1 : Nat),
 Heap.cell (Heap.setN h t4 0 [Value.bool b, slice a n m]) t4 1 = some (slice a_2 n_1 m_1) ∧
 Ret (Heap.setN h t4 0 [Value.bool b, slice a n m]) K (agg #[Value.bool b_1, slice a_2 n_1 m_1]))
theorem L_ref01_Add_1r (a : Nat) (b : Nat) (t4 : Nat) (out : Nat) (carry : Int) (i : Int) (h : Heap) (K : Value → Heap → Prop) (k : L_ref01_Add_1T a b t4 out carry i h K) : L_ref01_Add_1 a b t4 out carry i h K :=
 LoopAt.of_ev (cs := []) Try.func64 mixed (fun junk => by kernel_rfl) k
def F_ref01_AddT (a_0 : Bool) (a_1 : Option Addr) (a_1n : Nat) (a_1c : Nat) (b_0 : Bool) (b_1 : Option Addr) (b_1n : Nat) (b_1c : Nat) (h : Heap) (K : Value → Heap → Prop) : Prop :=
 newB h [Value.bool a_0, slice a_1 a_1n a_1c] 102 fun (r : Nat) (h : Heap) =>
 newB h [Value.bool b_0, slice b_1 b_1n b_1c] 102 fun (r_1 : Nat) (h : Heap) =>
 newB h [Value.bool false, slice none 0 0] 102 fun (r_2 : Nat) (h : Heap) =>
 ∃ (b : Bool),
 Heap.cell h r 0 = some (Value.bool b) ∧
 newB h [Value.bool false, slice none 0 0] 102 fun (r_3 : Nat) (h : Heap) =>
 Heap.canSt h r_3 0 2 ∧
 ∃ (b_2 : Bool),
 Heap.cell (Heap.setN h r_3 0 [Value.bool b, slice none 0 0]) r 0 = some (Value.bool b_2) ∧
 ∃ (b_3 : Bool),
 Heap.cell (Heap.setN h r_3 0 [Value.bool b, slice none 0 0]) r_1 0 = some (Value.bool b_3) ∧
 Br (b_2 == b_3) (L_ref01_Add_0 r r_1 r_2 r_3 0 0 (Heap.setN h r_3 0 [Value.bool b, slice none 0 0]) K)
 (∃ (b_4 : Bool),
 Heap.cell (Heap.setN h r_3 0 [Value.bool b, slice none 0 0]) r 0 = some (Value.bool b_4) ∧
 ∃ (a : Option Addr),
 ∃ (n : Nat),
 ∃ (m : Nat),
 Heap.cell (Heap.setN h r_3 0 [Value.bool b, slice none 0 0]) r 1 = some (slice a n m) ∧
 ∃ (b_5 : Bool),
 Heap.cell (Heap.setN h r_3 0 [Value.bool b, slice none 0 0]) r_1 0 = some (Value.bool b_5) ∧
 ∃ (a_2 : Option Addr),
 ∃ (n_1 : Nat),
 ∃ (m_1 : Nat),
 Heap.cell (Heap.setN h r_3 0 [Value.bool b, slice none 0 0]) r_1 1 = some (slice a_2 n_1 m_1) ∧
 CallA Try.prog fn_ref01_larger [agg #[Value.bool b_4, slice a n m], agg #[Value.bool b_5, slice a_2 n_1 m_1]] (Heap.setN h r_3 0 [Value.bool b, slice none 0 0])
 fun (v : Value) (h : Heap) =>
 ∃ (n : Int),
 v = int IntKind.i64 n ∧
 Br (decide (n < 0))
 (∃ (b : Bool),
 Heap.cell h r_1 0 = some (Value.bool b) ∧
 ∃ (a : Option Addr),
 ∃ (n : Nat),
 ∃ (m : Nat),
 Heap.cell h r_1 1 = some (slice a n m) ∧
 ∃ (b_6 : Bool),
 Heap.cell h r 0 = some (Value.bool b_6) ∧
 ∃ (a_3 : Option Addr),
 ∃ (n_2 : Nat),
 ∃ (m_2 : Nat),
 Heap.cell h r 1 = some (slice a_3 n_2 m_2) ∧
 CallA Try.prog fn_ref01_Add [agg #[Value.bool b, slice a n m], agg #[Value.bool b_6, slice a_3 n_2 m_2]] h fun (v : Value) (h : Heap) =>
 ∃ (b : Bool),
 ∃ (a : Option Addr),
 ∃ (n : Nat),
 ∃ (m : Nat),
 v = agg #[Value.bool b, slice a n m] ∧
 Heap.canSt h r_2 0 2 ∧
 ∃ (b_7 : Bool),
 Heap.cell (Heap.setN h r_2 0 [Value.bool b, slice a n m]) r_2 0 = some (Value.bool b_7) ∧
 ∃ (a_4 : Option Addr),
 ∃ (n_3 : Nat),
 ∃ (m_3 : Nat),
 Heap.cell (Heap.setN h r_2 0 [Value.bool b, slice a n m]) r_2 1 = some (slice a_4 n_3 m_3) ∧
 Ret (Heap.setN h r_2 0 [Value.bool b, slice a n m]) K (agg #[Value.bool b_7, slice a_4 n_3 m_3]))
 (L_ref01_Add_1 r r_1 r_2 r_3 0 0 h K))
theorem F_ref01_Add (a_0 : Bool) (a_1 : Option Addr) (a_1n : Nat) (a_1c : Nat) (b_0 : Bool) (b_1 : Option Addr) (b_1n : Nat) (b_1c : Nat) (h : Heap) (K : Value → Heap → Prop) (k : F_ref01_AddT a_0 a_1 a_1n a_1c b_0 b_1 b_1n b_1c h K) : CallA Try.prog fn_ref01_Add [agg #[Value.bool a_0, slice a_1 a_1n a_1c], agg #[Value.bool b_0, slice b_1 b_1n b_1c]] h K :=
 CallA.of_ev (cs := []) Try.func64 (by kernel_rfl) (fun _ _ => Try.call64 _ _) mixed (by kernel_rfl) (by kernel_rfl) k
end Go.Proofs.Ytghdadniddoboaa

namespace Go.Proofs.Ytghdadniddoboaa
open Go Go.Sy Go.Value
set_option linter.unusedVariables false
set_option maxRecDepth 100000
def L_ref01_Mul_0 (a : Nat) (b : Nat) (t4 : Nat) (out : Nat) (i : Int) (h : Heap) (K : Value → Heap → Prop) : Prop :=
 LoopAt Try.prog Try.f61 61 (loopK Try.f61 0) (sp 70 [(2, pointer (some { block := a, off := 0 })), (3, pointer (some { block := b, off := 0 })), (4, pointer (some { block := t4, off := 0 })), (5, pointer (some { block := out, off := 0 })), (6, int IntKind.i64 i)]) h K
def L_ref01_Mul_1 (a : Nat) (b : Nat) (t4 : Nat) (out : Nat) (i : Int) (carry : Int) (k' : Int) (h : Heap) (K : Value → Heap → Prop) : Prop :=
 LoopAt Try.prog Try.f61 61 (loopK Try.f61 1) (sp 70 [(2, pointer (some { block := a, off := 0 })), (3, pointer (some { block := b, off := 0 })), (4, pointer (some { block := t4, off := 0 })), (5, pointer (some { block := out, off := 0 })), (6, int IntKind.i64 i),
 (7, int IntKind.i64 carry), (8, int IntKind.i64 k')]) h K
def L_ref01_Mul_0T (a : Nat) (b : Nat) (t4 : Nat) (out : Nat) (i : Int) (h : Heap) (K : Value → Heap → Prop) : Prop :=
 ∃ (a_1 : Option Addr),
 ∃ (n : Nat),
 ∃ (m : Nat),
 Heap.cell h a 1 = some (slice a_1 n m) ∧
 Br (decide (i < (↑n : Int))) (L_ref01_Mul_1 a b t4 out i 0 0 h K)
 (∃ (b : Bool),
 Heap.cell h out 0 = some (Value.bool b) ∧
 ∃ (a : Option Addr),
 ∃ (n : Nat),
 ∃ (m : Nat),
 Heap.cell h out 1 = some (slice a n m) ∧
 CallA Try.prog fn_ref01_trim [agg #[Value.bool b, slice a n m]] h fun (v : Value) (h : Heap) =>
 ∃ (b : Bool),
 ∃ (a : Option Addr),
 ∃ (n : Nat),
 ∃ (m : Nat),
 v = agg #[Value.bool b, slice a n m] ∧
 Heap.canSt h t4 0 2 ∧
 ∃ (b_1 : Bool),
 Heap.cell (Heap.setN h t4 0 [Value.bool b, slice a n m]) t4 0 = some (Value.bool b_1) ∧
 ∃ (a_2 : Option Addr),
 ∃ (n_1 : Nat),
 ∃ (m_1 : Nat),
 Heap.cell (Heap.setN h t4 0 [Value.bool b, slice a n m]) t4 1 = some (slice a_2 n_1 m_1) ∧
 Ret (Heap.setN h t4 0 [Value.bool b, slice a n m]) K (agg #[Value.bool b_1, slice a_2 n_1 m_1]))
theorem L_ref01_Mul_0r (a : Nat) (b : Nat) (t4 : Nat) (out : Nat) (i : Int) (h : Heap) (K : Value → Heap → Prop) (k : L_ref01_Mul_0T a b t4 out i h K) : L_ref01_Mul_0 a b t4 out i h K :=
 LoopAt.of_ev (cs := []) Try.func61 mixed (fun junk => by kernel_rfl) k
def L_ref01_Mul_1T (a : Nat) (b : Nat) (t4 : Nat) (out : Nat) (i : Int) (carry : Int) (k' : Int) (h : Heap) (K : Value → Heap → Prop) : Prop :=
 ∃ (a_1 : Option Addr),
 ∃ (n : Nat),
 ∃ (m : Nat),
 Heap.cell h b 1 = some (slice a_1 n m) ∧
 Br (decide (k' < IntKind.wrap IntKind.i64 ((↑n : Int) + 1)))
 (∃ (a_2 : Option Addr),
 ∃ (n : Nat),
 ∃ (m : Nat),
 Heap.cell h out 1 = some (slice a_2 n m) ∧
 0 ≤ IntKind.wrap IntKind.i64 (i + k') ∧
 IntKind.wrap IntKind.i64 (i + k') < (↑n : Int) ∧
 withAddr a_2 fun (b_1 o : Nat) =>
 ∃ (n : Int),
 Heap.cell h b_1 (o + Int.toNat (IntKind.wrap IntKind.i64 (i + k'))) = some (int IntKind.i64 n) ∧
 ∃ (a_3 : Option Addr),
 ∃ (n_1 : Nat),
 ∃ (m : Nat),
 Heap.cell h a 1 = some (slice a_3 n_1 m) ∧
 0 ≤ i ∧
 i < (↑n_1 : Int) ∧
 withAddr a_3 fun (b_2 o : Nat) =>
 ∃ (n_2 : Int),
 Heap.cell h b_2 (o + Int.toNat i) = some (int IntKind.i64 n_2) ∧
 ∃ (b_3 : Bool),
 Heap.cell h b 0 = some (Value.bool b_3) ∧
 ∃ (a_4 : Option Addr),
 ∃ (n_3 : Nat),
 ∃ (m : Nat),
 Heap.cell h b 1 = some (slice a_4 n_3 m) ∧
 CallA Try.prog fn_ref01_digit [agg #[Value.bool b_3, slice a_4 n_3 m], int IntKind.i64 k'] h fun (v : Value) (h_1 : Heap) =>
 ∃ (n_4 : Int),
 v = int IntKind.i64 n_4 ∧
 (Heap.le h h_1 ∨ Keeps [out, b_1, a, b_2] h h_1) ∧
 ∃ (a_5 : Option Addr),
 ∃ (n_5 : Nat),
 ∃ (m : Nat),
 Heap.cell h_1 out 1 = some (slice a_5 n_5 m) ∧
 0 ≤ IntKind.wrap IntKind.i64 (i + k') ∧
 IntKind.wrap IntKind.i64 (i + k') < (↑n_5 : Int) ∧
 withAddr a_5 fun (b_4 o : Nat) =>
 Heap.canSt h_1 b_4 (o + Int.toNat (IntKind.wrap IntKind.i64 (i + k'))) 1 ∧
 L_ref01_Mul_1 a b t4 out i
 (IntKind.wrap IntKind.i64
 (Int.tdiv (IntKind.wrap IntKind.i64 (IntKind.wrap IntKind.i64 (carry + n) + IntKind.wrap IntKind.i64 (n_2 * n_4))) 10000))
 (IntKind.wrap IntKind.i64 (k' + 1))
 (Heap.setN h_1 b_4 (o + Int.toNat (IntKind.wrap IntKind.i64 (i + k')))
 [int IntKind.i64
 (Int.tmod (IntKind.wrap IntKind.i64 (IntKind.wrap IntKind.i64 (carry + n) + IntKind.wrap IntKind.i64 (n_2 * n_4))) 10000)])
 K)
 (L_ref01_Mul_0 a b t4 out (IntKind.wrap IntKind.i64 (i + 1)) h K)
theorem L_ref01_Mul_1r (a : Nat) (b : Nat) (t4 : Nat) (out : Nat) (i : Int) (carry : Int) (k' : Int) (h : Heap) (K : Value → Heap → Prop) (k : L_ref01_Mul_1T a b t4 out i carry k' h K) : L_ref01_Mul_1 a b t4 out i carry k' h K :=
 LoopAt.of_ev (cs := []) Try.func61 mixed (fun junk => by kernel_rfl) k
def F_ref01_MulT (a_0 : Bool) (a_1 : Option Addr) (a_1n : Nat) (a_1c : Nat) (b_0 : Bool) (b_1 : Option Addr) (b_1n : Nat) (b_1c : Nat) (h : Heap) (K : Value → Heap → Prop) : Prop :=
 newB h [Value.bool a_0, slice a_1 a_1n a_1c] 102 fun (r : Nat) (h : Heap) =>
 newB h [Value.bool b_0, slice b_1 b_1n b_1c] 102 fun (r_1 : Nat) (h : Heap) =>
 newB h [Value.bool false, slice none 0 0] 102 fun (r_2 : Nat) (h : Heap) =>
 ∃ (b : Bool),
 Heap.cell h r 0 = some (Value.bool b) ∧
 ∃ (b_2 : Bool),
 Heap.cell h r_1 0 = some (Value.bool b_2) ∧
 ∃ (a : Option Addr),
 ∃ (n : Nat),
 ∃ (m : Nat),
 Heap.cell h r 1 = some (slice a n m) ∧
 ∃ (a : Option Addr),
 ∃ (n_1 : Nat),
 ∃ (m : Nat),
 Heap.cell h r_1 1 = some (slice a n_1 m) ∧
 0 ≤ IntKind.wrap IntKind.i64 (IntKind.wrap IntKind.i64 ((↑n : Int) + (↑n_1 : Int)) + 1) ∧
 IntKind.wrap IntKind.i64 (IntKind.wrap IntKind.i64 ((↑n : Int) + (↑n_1 : Int)) + 1) ≤ IntKind.wrap IntKind.i64 (IntKind.wrap IntKind.i64 ((↑n : Int) + (↑n_1 : Int)) + 1) ∧
 IntKind.wrap IntKind.i64 (IntKind.wrap IntKind.i64 ((↑n : Int) + (↑n_1 : Int)) + 1) ≤ 281474976710656 ∧
 8 * IntKind.wrap IntKind.i64 (IntKind.wrap IntKind.i64 ((↑n : Int) + (↑n_1 : Int)) + 1) ≤ 281474976710656 ∧
 newB h (repL (Int.toNat (IntKind.wrap IntKind.i64 (IntKind.wrap IntKind.i64 ((↑n : Int) + (↑n_1 : Int)) + 1))) [int IntKind.i64 0]) 3 fun (r_3 : Nat) (h : Heap) =>
 newB h [Value.bool false, slice none 0 0] 102 fun (r_4 : Nat) (h : Heap) =>
 Heap.canSt h r_4 0 2 ∧
 L_ref01_Mul_0 r r_1 r_2 r_4 0
 (Heap.setN h r_4 0
 [Value.bool !b == b_2,
 slice (some { block := r_3, off := 0 }) (Int.toNat (IntKind.wrap IntKind.i64 (IntKind.wrap IntKind.i64 ((↑n : Int) + (↑n_1 : Int)) + 1)))
 (Int.toNat (IntKind.wrap IntKind.i64 (IntKind.wrap IntKind.i64 ((↑n : Int) + (↑n_1 : Int)) + 1)))])
 K
theorem F_ref01_Mul (a_0 : Bool) (a_1 : Option Addr) (a_1n : Nat) (a_1c : Nat) (b_0 : Bool) (b_1 : Option Addr) (b_1n : Nat) (b_1c : Nat) (h : Heap) (K : Value → Heap → Prop) (k : F_ref01_MulT a_0 a_1 a_1n a_1c b_0 b_1 b_1n b_1c h K) : CallA Try.prog fn_ref01_Mul [agg #[Value.bool a_0, slice a_1 a_1n a_1c], agg #[Value.bool b_0, slice b_1 b_1n b_1c]] h K :=
 CallA.of_ev (cs := []) Try.func61 (by kernel_rfl) (fun _ _ => Try.call61 _ _) mixed (by kernel_rfl) (by kernel_rfl) k
end Go.Proofs.Ytghdadniddoboaa

namespace Go.Proofs.Ytghdadniddoboaa
open Go Go.Sy Go.Value
set_option linter.unusedVariables false
set_option maxRecDepth 100000
def L_ref01_Div_0 (up : Bool) (a : Nat) (b : Nat) (t6 : Nat) (rest : Nat) (q : Nat) (i : Int) (h : Heap) (K : Value → Heap → Prop) : Prop :=
 LoopAt Try.prog Try.f63 63 (loopK Try.f63 0) (sp 110 [(2, Value.bool up), (3, pointer (some { block := a, off := 0 })), (4, pointer (some { block := b, off := 0 })), (6, pointer (some { block := t6, off := 0 })), (7, pointer (some { block := rest, off := 0 })),
 (8, pointer (some { block := q, off := 0 })), (9, int IntKind.i64 i)]) h K
def L_ref01_Div_1 (up : Bool) (a : Nat) (b : Nat) (t6 : Nat) (rest : Nat) (q : Nat) (i : Int) (h : Heap) (K : Value → Heap → Prop) : Prop :=
 LoopAt Try.prog Try.f63 63 (loopK Try.f63 1) (sp 110 [(2, Value.bool up), (3, pointer (some { block := a, off := 0 })), (4, pointer (some { block := b, off := 0 })), (6, pointer (some { block := t6, off := 0 })), (7, pointer (some { block := rest, off := 0 })),
 (8, pointer (some { block := q, off := 0 })), (9, int IntKind.i64 i)]) h K
def L_ref01_Div_2 (up : Bool) (a : Nat) (b : Nat) (t6 : Nat) (rest : Nat) (q : Nat) (i : Int) (low : Int) (high : Int) (h : Heap) (K : Value → Heap → Prop) : Prop :=
 LoopAt Try.prog Try.f63 63 (loopK Try.f63 2) (sp 110 [(2, Value.bool up), (3, pointer (some { block := a, off := 0 })), (4, pointer (some { block := b, off := 0 })), (6, pointer (some { block := t6, off := 0 })), (7, pointer (some { block := rest, off := 0 })),
 (8, pointer (some { block := q, off := 0 })), (9, int IntKind.i64 i), (10, int IntKind.i64 low), (11, int IntKind.i64 high)]) h K
def L_ref01_Div_0T (up : Bool) (a : Nat) (b : Nat) (t6 : Nat) (rest : Nat) (q : Nat) (i : Int) (h : Heap) (K : Value → Heap → Prop) : Prop :=
 Br (decide (i ≥ 0))
 (∃ (a_1 : Option Addr),
 ∃ (n : Nat),
 ∃ (m : Nat),
 Heap.cell h a 1 = some (slice a_1 n m) ∧
 0 ≤ i ∧
 i < (↑n : Int) ∧
 withAddr a_1 fun (b_1 o : Nat) =>
 ∃ (n : Int),
 Heap.cell h b_1 (o + Int.toNat i) = some (int IntKind.i64 n) ∧
 ∃ (a_2 : Option Addr),
 ∃ (n_1 : Nat),
 ∃ (m : Nat),
 Heap.cell h rest 1 = some (slice a_2 n_1 m) ∧
 newB h [int IntKind.i64 n] 3 fun (r : Nat) (h : Heap) =>
 AppA [int IntKind.i64 0] 3 h (some { block := r, off := 0 }) 1 1 n_1 a_2 fun (ap : Option Addr) (cp : Nat) (h : Heap) =>
 CallA Try.prog fn_ref01_trim [agg #[Value.bool false, slice ap (1 + n_1) cp]] h fun (v : Value) (h : Heap) =>
 ∃ (b_2 : Bool),
 ∃ (a_3 : Option Addr),
 ∃ (n : Nat), ∃ (m : Nat), v = agg #[Value.bool b_2, slice a_3 n m] ∧ Heap.canSt h rest 0 2 ∧ L_ref01_Div_1 up a b t6 rest q i (Heap.setN h rest 0 [Value.bool b_2, slice a_3 n m]) K)
 (∃ (b : Bool),
 Heap.cell h q 0 = some (Value.bool b) ∧
 ∃ (a_1 : Option Addr),
 ∃ (n : Nat),
 ∃ (m : Nat),
 Heap.cell h q 1 = some (slice a_1 n m) ∧
 CallA Try.prog fn_ref01_trim [agg #[Value.bool b, slice a_1 n m]] h fun (v : Value) (h : Heap) =>
 ∃ (b : Bool),
 ∃ (a_2 : Option Addr),
 ∃ (n : Nat),
 ∃ (m : Nat),
 v = agg #[Value.bool b, slice a_2 n m] ∧
 Heap.canSt h q 0 2 ∧
 ∃ (a_3 : Option Addr),
 ∃ (n_1 : Nat),
 ∃ (m_1 : Nat),
 Heap.cell (Heap.setN h q 0 [Value.bool b, slice a_2 n m]) rest 1 = some (slice a_3 n_1 m_1) ∧
 Br (decide ((↑n_1 : Int) > 0))
 (∃ (b_1 : Bool),
 Heap.cell (Heap.setN h q 0 [Value.bool b, slice a_2 n m]) a 0 = some (Value.bool b_1) ∧
 Br (!b_1)
 (Br up
 (∃ (b_2 : Bool),
 Heap.cell (Heap.setN h q 0 [Value.bool b, slice a_2 n m]) q 0 = some (Value.bool b_2) ∧
 ∃ (a : Option Addr),
 ∃ (n_2 : Nat),
 ∃ (m_2 : Nat),
 Heap.cell (Heap.setN h q 0 [Value.bool b, slice a_2 n m]) q 1 = some (slice a n_2 m_2) ∧
 CallA Try.prog fn_ref01_Of [int IntKind.i64 1] (Heap.setN h q 0 [Value.bool b, slice a_2 n m]) fun (v : Value) (h_1 : Heap) =>
 ∃ (b_3 : Bool),
 ∃ (a_4 : Option Addr),
 ∃ (n_3 : Nat),
 ∃ (m_3 : Nat),
 v = agg #[Value.bool b_3, slice a_4 n_3 m_3] ∧
 (Heap.le (Heap.setN h q 0 [Value.bool b, slice a_2 n m]) h_1 ∨ Keeps [q] (Heap.setN h q 0 [Value.bool b, slice a_2 n m]) h_1) ∧
 CallA Try.prog fn_ref01_Add [agg #[Value.bool b_2, slice a n_2 m_2], agg #[Value.bool b_3, slice a_4 n_3 m_3]] h_1 fun (v : Value) (h : Heap) =>
 ∃ (b : Bool),
 ∃ (a : Option Addr),
 ∃ (n : Nat),
 ∃ (m : Nat),
 v = agg #[Value.bool b, slice a n m] ∧
 Heap.canSt h t6 0 2 ∧
 ∃ (b_4 : Bool),
 Heap.cell (Heap.setN h t6 0 [Value.bool b, slice a n m]) t6 0 = some (Value.bool b_4) ∧
 ∃ (a_5 : Option Addr),
 ∃ (n_4 : Nat),
 ∃ (m_4 : Nat),
 Heap.cell (Heap.setN h t6 0 [Value.bool b, slice a n m]) t6 1 = some (slice a_5 n_4 m_4) ∧
 Ret (Heap.setN h t6 0 [Value.bool b, slice a n m]) K (agg #[Value.bool b_4, slice a_5 n_4 m_4]))
 (∃ (a_4 : Option Addr),
 ∃ (n_2 : Nat),
 ∃ (m_2 : Nat),
 Heap.cell (Heap.setN h q 0 [Value.bool b, slice a_2 n m]) rest 1 = some (slice a_4 n_2 m_2) ∧
 Br (decide ((↑n_2 : Int) > 0))
 (∃ (b_2 : Bool),
 Heap.cell (Heap.setN h q 0 [Value.bool b, slice a_2 n m]) a 0 = some (Value.bool b_2) ∧
 Br b_2
 (Br (!up)
 (∃ (b_3 : Bool),
 Heap.cell (Heap.setN h q 0 [Value.bool b, slice a_2 n m]) q 0 = some (Value.bool b_3) ∧
 ∃ (a : Option Addr),
 ∃ (n_3 : Nat),
 ∃ (m_3 : Nat),
 Heap.cell (Heap.setN h q 0 [Value.bool b, slice a_2 n m]) q 1 = some (slice a n_3 m_3) ∧
 CallA Try.prog fn_ref01_Of [int IntKind.i64 (-1)] (Heap.setN h q 0 [Value.bool b, slice a_2 n m]) fun (v : Value) (h_1 : Heap) =>
 ∃ (b_4 : Bool),
 ∃ (a_5 : Option Addr),
 ∃ (n_4 : Nat),
 ∃ (m_4 : Nat),
 v = agg #[Value.bool b_4, slice a_5 n_4 m_4] ∧
 (Heap.le (Heap.setN h q 0 [Value.bool b, slice a_2 n m]) h_1 ∨ Keeps [q] (Heap.setN h q 0 [Value.bool b, slice a_2 n m]) h_1) ∧
 CallA Try.prog fn_ref01_Add [agg #[Value.bool b_3, slice a n_3 m_3], agg #[Value.bool b_4, slice a_5 n_4 m_4]] h_1
 fun (v : Value) (h : Heap) =>
 ∃ (b : Bool),
 ∃ (a : Option Addr),
 ∃ (n : Nat),
 ∃ (m : Nat),
 v = agg #[Value.bool b, slice a n m] ∧
 Heap.canSt h t6 0 2 ∧
 ∃ (b_5 : Bool),
 Heap.cell (Heap.setN h t6 0 [Value.bool b, slice a n m]) t6 0 = some (Value.bool b_5) ∧
 ∃ (a_6 : Option Addr),
 ∃ (n_5 : Nat),
 ∃ (m_5 : Nat),
 Heap.cell (Heap.setN h t6 0 [Value.bool b, slice a n m]) t6 1 = some (slice a_6 n_5 m_5) ∧
 Ret (Heap.setN h t6 0 [Value.bool b, slice a n m]) K (agg #[Value.bool b_5, slice a_6 n_5 m_5]))
 (∃ (b_3 : Bool),
 Heap.cell (Heap.setN h q 0 [Value.bool b, slice a_2 n m]) q 0 = some (Value.bool b_3) ∧
 ∃ (a : Option Addr),
 ∃ (n_3 : Nat),
 ∃ (m_3 : Nat),
 Heap.cell (Heap.setN h q 0 [Value.bool b, slice a_2 n m]) q 1 = some (slice a n_3 m_3) ∧
 Heap.canSt (Heap.setN h q 0 [Value.bool b, slice a_2 n m]) t6 0 2 ∧
 ∃ (b_4 : Bool),
 Heap.cell (Heap.setN (Heap.setN h q 0 [Value.bool b, slice a_2 n m]) t6 0 [Value.bool b_3, slice a n_3 m_3]) t6 0 = some (Value.bool b_4) ∧
 ∃ (a_5 : Option Addr),
 ∃ (n_4 : Nat),
 ∃ (m_4 : Nat),
 Heap.cell (Heap.setN (Heap.setN h q 0 [Value.bool b, slice a_2 n m]) t6 0 [Value.bool b_3, slice a n_3 m_3]) t6 1 =
 some (slice a_5 n_4 m_4) ∧
 Ret (Heap.setN (Heap.setN h q 0 [Value.bool b, slice a_2 n m]) t6 0 [Value.bool b_3, slice a n_3 m_3]) K
 (agg #[Value.bool b_4, slice a_5 n_4 m_4])))
 (∃ (b_3 : Bool),
 Heap.cell (Heap.setN h q 0 [Value.bool b, slice a_2 n m]) q 0 = some (Value.bool b_3) ∧
 ∃ (a : Option Addr),
 ∃ (n_3 : Nat),
 ∃ (m_3 : Nat),
 Heap.cell (Heap.setN h q 0 [Value.bool b, slice a_2 n m]) q 1 = some (slice a n_3 m_3) ∧
 Heap.canSt (Heap.setN h q 0 [Value.bool b, slice a_2 n m]) t6 0 2 ∧
 ∃ (b_4 : Bool),
 Heap.cell (Heap.setN (Heap.setN h q 0 [Value.bool b, slice a_2 n m]) t6 0 [Value.bool b_3, slice a n_3 m_3]) t6 0 = some (Value.bool b_4) ∧
 ∃ (a_5 : Option Addr),
 ∃ (n_4 : Nat),
 ∃ (m_4 : Nat),
 Heap.cell (Heap.setN (Heap.setN h q 0 [Value.bool b, slice a_2 n m]) t6 0 [Value.bool b_3, slice a n_3 m_3]) t6 1 =
 some (slice a_5 n_4 m_4) ∧
 Ret (Heap.setN (Heap.setN h q 0 [Value.bool b, slice a_2 n m]) t6 0 [Value.bool b_3, slice a n_3 m_3]) K
 (agg #[Value.bool b_4, slice a_5 n_4 m_4])))
 (∃ (b_2 : Bool),
 Heap.cell (Heap.setN h q 0 [Value.bool b, slice a_2 n m]) q 0 = some (Value.bool b_2) ∧
 ∃ (a : Option Addr),
 ∃ (n_3 : Nat),
 ∃ (m_3 : Nat),
 Heap.cell (Heap.setN h q 0 [Value.bool b, slice a_2 n m]) q 1 = some (slice a n_3 m_3) ∧
 Heap.canSt (Heap.setN h q 0 [Value.bool b, slice a_2 n m]) t6 0 2 ∧
 ∃ (b_3 : Bool),
 Heap.cell (Heap.setN (Heap.setN h q 0 [Value.bool b, slice a_2 n m]) t6 0 [Value.bool b_2, slice a n_3 m_3]) t6 0 = some (Value.bool b_3) ∧
 ∃ (a_5 : Option Addr),
 ∃ (n_4 : Nat),
 ∃ (m_4 : Nat),
 Heap.cell (Heap.setN (Heap.setN h q 0 [Value.bool b, slice a_2 n m]) t6 0 [Value.bool b_2, slice a n_3 m_3]) t6 1 =
 some (slice a_5 n_4 m_4) ∧
 Ret (Heap.setN (Heap.setN h q 0 [Value.bool b, slice a_2 n m]) t6 0 [Value.bool b_2, slice a n_3 m_3]) K
 (agg #[Value.bool b_3, slice a_5 n_4 m_4]))))
 (∃ (a_4 : Option Addr),
 ∃ (n_2 : Nat),
 ∃ (m_2 : Nat),
 Heap.cell (Heap.setN h q 0 [Value.bool b, slice a_2 n m]) rest 1 = some (slice a_4 n_2 m_2) ∧
 Br (decide ((↑n_2 : Int) > 0))
 (∃ (b_2 : Bool),
 Heap.cell (Heap.setN h q 0 [Value.bool b, slice a_2 n m]) a 0 = some (Value.bool b_2) ∧
 Br b_2
 (Br (!up)
 (∃ (b_3 : Bool),
 Heap.cell (Heap.setN h q 0 [Value.bool b, slice a_2 n m]) q 0 = some (Value.bool b_3) ∧
 ∃ (a : Option Addr),
 ∃ (n_3 : Nat),
 ∃ (m_3 : Nat),
 Heap.cell (Heap.setN h q 0 [Value.bool b, slice a_2 n m]) q 1 = some (slice a n_3 m_3) ∧
 CallA Try.prog fn_ref01_Of [int IntKind.i64 (-1)] (Heap.setN h q 0 [Value.bool b, slice a_2 n m]) fun (v : Value) (h_1 : Heap) =>
 ∃ (b_4 : Bool),
 ∃ (a_5 : Option Addr),
 ∃ (n_4 : Nat),
 ∃ (m_4 : Nat),
 v = agg #[Value.bool b_4, slice a_5 n_4 m_4] ∧
 (Heap.le (Heap.setN h q 0 [Value.bool b, slice a_2 n m]) h_1 ∨ Keeps [q] (Heap.setN h q 0 [Value.bool b, slice a_2 n m]) h_1) ∧
 CallA Try.prog fn_ref01_Add [agg #[Value.bool b_3, slice a n_3 m_3], agg #[Value.bool b_4, slice a_5 n_4 m_4]] h_1
 fun (v : Value) (h : Heap) =>
 ∃ (b : Bool),
 ∃ (a : Option Addr),
 ∃ (n : Nat),
 ∃ (m : Nat),
 v = agg #[Value.bool b, slice a n m] ∧
 Heap.canSt h t6 0 2 ∧
 ∃ (b_5 : Bool),
 Heap.cell (Heap.setN h t6 0 [Value.bool b, slice a n m]) t6 0 = some (Value.bool b_5) ∧
 ∃ (a_6 : Option Addr),
 ∃ (n_5 : Nat),
 ∃ (m_5 : Nat),
 Heap.cell (Heap.setN h t6 0 [Value.bool b, slice a n m]) t6 1 = some (slice a_6 n_5 m_5) ∧
 Ret (Heap.setN h t6 0 [Value.bool b, slice a n m]) K (agg #[Value.bool b_5, slice a_6 n_5 m_5]))
 (∃ (b_3 : Bool),
 Heap.cell (Heap.setN h q 0 [Value.bool b, slice a_2 n m]) q 0 = some (Value.bool b_3) ∧
 ∃ (a : Option Addr),
 ∃ (n_3 : Nat),
 ∃ (m_3 : Nat),
 Heap.cell (Heap.setN h q 0 [Value.bool b, slice a_2 n m]) q 1 = some (slice a n_3 m_3) ∧
 Heap.canSt (Heap.setN h q 0 [Value.bool b, slice a_2 n m]) t6 0 2 ∧
 ∃ (b_4 : Bool),
 Heap.cell (Heap.setN (Heap.setN h q 0 [Value.bool b, slice a_2 n m]) t6 0 [Value.bool b_3, slice a n_3 m_3]) t6 0 = some (Value.bool b_4) ∧
 ∃ (a_5 : Option Addr),
 ∃ (n_4 : Nat),
 ∃ (m_4 : Nat),
 Heap.cell (Heap.setN (Heap.setN h q 0 [Value.bool b, slice a_2 n m]) t6 0 [Value.bool b_3, slice a n_3 m_3]) t6 1 =
 some (slice a_5 n_4 m_4) ∧
 Ret (Heap.setN (Heap.setN h q 0 [Value.bool b, slice a_2 n m]) t6 0 [Value.bool b_3, slice a n_3 m_3]) K
 (agg #[Value.bool b_4, slice a_5 n_4 m_4])))
 (∃ (b_3 : Bool),
 Heap.cell (Heap.setN h q 0 [Value.bool b, slice a_2 n m]) q 0 = some (Value.bool b_3) ∧
 ∃ (a : Option Addr),
 ∃ (n_3 : Nat),
 ∃ (m_3 : Nat),
 Heap.cell (Heap.setN h q 0 [Value.bool b, slice a_2 n m]) q 1 = some (slice a n_3 m_3) ∧
 Heap.canSt (Heap.setN h q 0 [Value.bool b, slice a_2 n m]) t6 0 2 ∧
 ∃ (b_4 : Bool),
 Heap.cell (Heap.setN (Heap.setN h q 0 [Value.bool b, slice a_2 n m]) t6 0 [Value.bool b_3, slice a n_3 m_3]) t6 0 = some (Value.bool b_4) ∧
 ∃ (a_5 : Option Addr),
 ∃ (n_4 : Nat),
 ∃ (m_4 : Nat),
 Heap.cell (Heap.setN (Heap.setN h q 0 [Value.bool b, slice a_2 n m]) t6 0 [Value.bool b_3, slice a n_3 m_3]) t6 1 =
 some (slice a_5 n_4 m_4) ∧
 Ret (Heap.setN (Heap.setN h q 0 [Value.bool b, slice a_2 n m]) t6 0 [Value.bool b_3, slice a n_3 m_3]) K
 (agg #[Value.bool b_4, slice a_5 n_4 m_4])))
 (∃ (b_2 : Bool),
 Heap.cell (Heap.setN h q 0 [Value.bool b, slice a_2 n m]) q 0 = some (Value.bool b_2) ∧
 ∃ (a : Option Addr),
 ∃ (n_3 : Nat),
 ∃ (m_3 : Nat),
 Heap.cell (Heap.setN h q 0 [Value.bool b, slice a_2 n m]) q 1 = some (slice a n_3 m_3) ∧
 Heap.canSt (Heap.setN h q 0 [Value.bool b, slice a_2 n m]) t6 0 2 ∧
 ∃ (b_3 : Bool),
 Heap.cell (Heap.setN (Heap.setN h q 0 [Value.bool b, slice a_2 n m]) t6 0 [Value.bool b_2, slice a n_3 m_3]) t6 0 = some (Value.bool b_3) ∧
 ∃ (a_5 : Option Addr),
 ∃ (n_4 : Nat),
 ∃ (m_4 : Nat),
 Heap.cell (Heap.setN (Heap.setN h q 0 [Value.bool b, slice a_2 n m]) t6 0 [Value.bool b_2, slice a n_3 m_3]) t6 1 = some (slice a_5 n_4 m_4) ∧
 Ret (Heap.setN (Heap.setN h q 0 [Value.bool b, slice a_2 n m]) t6 0 [Value.bool b_2, slice a n_3 m_3]) K
 (agg #[Value.bool b_3, slice a_5 n_4 m_4]))))
 (∃ (a_4 : Option Addr),
 ∃ (n_2 : Nat),
 ∃ (m_2 : Nat),
 Heap.cell (Heap.setN h q 0 [Value.bool b, slice a_2 n m]) rest 1 = some (slice a_4 n_2 m_2) ∧
 Br (decide ((↑n_2 : Int) > 0))
 (∃ (b_1 : Bool),
 Heap.cell (Heap.setN h q 0 [Value.bool b, slice a_2 n m]) a 0 = some (Value.bool b_1) ∧
 Br b_1
 (Br (!up)
 (∃ (b_2 : Bool),
 Heap.cell (Heap.setN h q 0 [Value.bool b, slice a_2 n m]) q 0 = some (Value.bool b_2) ∧
 ∃ (a : Option Addr),
 ∃ (n_3 : Nat),
 ∃ (m_3 : Nat),
 Heap.cell (Heap.setN h q 0 [Value.bool b, slice a_2 n m]) q 1 = some (slice a n_3 m_3) ∧
 CallA Try.prog fn_ref01_Of [int IntKind.i64 (-1)] (Heap.setN h q 0 [Value.bool b, slice a_2 n m]) fun (v : Value) (h_1 : Heap) =>
 ∃ (b_3 : Bool),
 ∃ (a_5 : Option Addr),
 ∃ (n_4 : Nat),
 ∃ (m_4 : Nat),
 v = agg #[Value.bool b_3, slice a_5 n_4 m_4] ∧
 (Heap.le (Heap.setN h q 0 [Value.bool b, slice a_2 n m]) h_1 ∨ Keeps [q] (Heap.setN h q 0 [Value.bool b, slice a_2 n m]) h_1) ∧
 CallA Try.prog fn_ref01_Add [agg #[Value.bool b_2, slice a n_3 m_3], agg #[Value.bool b_3, slice a_5 n_4 m_4]] h_1
 fun (v : Value) (h : Heap) =>
 ∃ (b : Bool),
 ∃ (a : Option Addr),
 ∃ (n : Nat),
 ∃ (m : Nat),
 v = agg #[Value.bool b, slice a n m] ∧
 Heap.canSt h t6 0 2 ∧
 ∃ (b_4 : Bool),
 Heap.cell (Heap.setN h t6 0 [Value.bool b, slice a n m]) t6 0 = some (Value.bool b_4) ∧
 ∃ (a_6 : Option Addr),
 ∃ (n_5 : Nat),
 ∃ (m_5 : Nat),
 Heap.cell (Heap.setN h t6 0 [Value.bool b, slice a n m]) t6 1 = some (slice a_6 n_5 m_5) ∧
 Ret (Heap.setN h t6 0 [Value.bool b, slice a n m]) K (agg #[Value.bool b_4, slice a_6 n_5 m_5]))
 (∃ (b_2 : Bool),
 Heap.cell (Heap.setN h q 0 [Value.bool b, slice a_2 n m]) q 0 = some (Value.bool b_2) ∧
 ∃ (a : Option Addr),
 ∃ (n_3 : Nat),
 ∃ (m_3 : Nat),
 Heap.cell (Heap.setN h q 0 [Value.bool b, slice a_2 n m]) q 1 = some (slice a n_3 m_3) ∧
 Heap.canSt (Heap.setN h q 0 [Value.bool b, slice a_2 n m]) t6 0 2 ∧
 ∃ (b_3 : Bool),
 Heap.cell (Heap.setN (Heap.setN h q 0 [Value.bool b, slice a_2 n m]) t6 0 [Value.bool b_2, slice a n_3 m_3]) t6 0 = some (Value.bool b_3) ∧
 ∃ (a_5 : Option Addr),
 ∃ (n_4 : Nat),
 ∃ (m_4 : Nat),
 Heap.cell (Heap.setN (Heap.setN h q 0 [Value.bool b, slice a_2 n m]) t6 0 [Value.bool b_2, slice a n_3 m_3]) t6 1 =
 some (slice a_5 n_4 m_4) ∧
 Ret (Heap.setN (Heap.setN h q 0 [Value.bool b, slice a_2 n m]) t6 0 [Value.bool b_2, slice a n_3 m_3]) K
 (agg #[Value.bool b_3, slice a_5 n_4 m_4])))
 (∃ (b_2 : Bool),
 Heap.cell (Heap.setN h q 0 [Value.bool b, slice a_2 n m]) q 0 = some (Value.bool b_2) ∧
 ∃ (a : Option Addr),
 ∃ (n_3 : Nat),
 ∃ (m_3 : Nat),
 Heap.cell (Heap.setN h q 0 [Value.bool b, slice a_2 n m]) q 1 = some (slice a n_3 m_3) ∧
 Heap.canSt (Heap.setN h q 0 [Value.bool b, slice a_2 n m]) t6 0 2 ∧
 ∃ (b_3 : Bool),
 Heap.cell (Heap.setN (Heap.setN h q 0 [Value.bool b, slice a_2 n m]) t6 0 [Value.bool b_2, slice a n_3 m_3]) t6 0 = some (Value.bool b_3) ∧
 ∃ (a_5 : Option Addr),
 ∃ (n_4 : Nat),
 ∃ (m_4 : Nat),
 Heap.cell (Heap.setN (Heap.setN h q 0 [Value.bool b, slice a_2 n m]) t6 0 [Value.bool b_2, slice a n_3 m_3]) t6 1 = some (slice a_5 n_4 m_4) ∧
 Ret (Heap.setN (Heap.setN h q 0 [Value.bool b, slice a_2 n m]) t6 0 [Value.bool b_2, slice a n_3 m_3]) K
 (agg #[Value.bool b_3, slice a_5 n_4 m_4])))
 (∃ (b_1 : Bool),
 Heap.cell (Heap.setN h q 0 [Value.bool b, slice a_2 n m]) q 0 = some (Value.bool b_1) ∧
 ∃ (a : Option Addr),
 ∃ (n_3 : Nat),
 ∃ (m_3 : Nat),
 Heap.cell (Heap.setN h q 0 [Value.bool b, slice a_2 n m]) q 1 = some (slice a n_3 m_3) ∧
 Heap.canSt (Heap.setN h q 0 [Value.bool b, slice a_2 n m]) t6 0 2 ∧
 ∃ (b_2 : Bool),
 Heap.cell (Heap.setN (Heap.setN h q 0 [Value.bool b, slice a_2 n m]) t6 0 [Value.bool b_1, slice a n_3 m_3]) t6 0 = some (Value.bool b_2) ∧
 ∃ (a_5 : Option Addr),
 ∃ (n_4 : Nat),
 ∃ (m_4 : Nat),
 Heap.cell (Heap.setN (Heap.setN h q 0 [Value.bool b, slice a_2 n m]) t6 0 [Value.bool b_1, slice a n_3 m_3]) t6 1 = some (slice a_5 n_4 m_4) ∧
 Ret (Heap.setN (Heap.setN h q 0 [Value.bool b, slice a_2 n m]) t6 0 [Value.bool b_1, slice a n_3 m_3]) K
 (agg #[Value.bool b_2, slice a_5 n_4 m_4]))))
theorem L_ref01_Div_0r (up : Bool) (a : Nat) (b : Nat) (t6 : Nat) (rest : Nat) (q : Nat) (i : Int) (h : Heap) (K : Value → Heap → Prop) (k : L_ref01_Div_0T up a b t6 rest q i h K) : L_ref01_Div_0 up a b t6 rest q i h K :=
 LoopAt.of_ev (cs := []) Try.func63 mixed (fun junk => by kernel_rfl) k
def L_ref01_Div_1T (up : Bool) (a : Nat) (b : Nat) (t6 : Nat) (rest : Nat) (q : Nat) (i : Int) (h : Heap) (K : Value → Heap → Prop) : Prop :=
 ∃ (b_1 : Bool),
 Heap.cell h rest 0 = some (Value.bool b_1) ∧
 ∃ (a_1 : Option Addr),
 ∃ (n : Nat),
 ∃ (m : Nat),
 Heap.cell h rest 1 = some (slice a_1 n m) ∧
 ∃ (b_2 : Bool),
 Heap.cell h b 0 = some (Value.bool b_2) ∧
 ∃ (a_2 : Option Addr),
 ∃ (n_1 : Nat),
 ∃ (m_1 : Nat),
 Heap.cell h b 1 = some (slice a_2 n_1 m_1) ∧
 CallA Try.prog fn_ref01_larger [agg #[Value.bool b_1, slice a_1 n m], agg #[Value.bool b_2, slice a_2 n_1 m_1]] h fun (v : Value) (h : Heap) =>
 ∃ (n : Int), v = int IntKind.i64 n ∧ Br (decide (n ≥ 0)) (L_ref01_Div_2 up a b t6 rest q i 1 10000 h K) (L_ref01_Div_0 up a b t6 rest q (IntKind.wrap IntKind.i64 (i - 1)) h K)
theorem L_ref01_Div_1r (up : Bool) (a : Nat) (b : Nat) (t6 : Nat) (rest : Nat) (q : Nat) (i : Int) (h : Heap) (K : Value → Heap → Prop) (k : L_ref01_Div_1T up a b t6 rest q i h K) : L_ref01_Div_1 up a b t6 rest q i h K :=
 LoopAt.of_ev (cs := []) Try.func63 mixed (fun junk => by kernel_rfl) k
def L_ref01_Div_2T (up : Bool) (a : Nat) (b : Nat) (t6 : Nat) (rest : Nat) (q : Nat) (i : Int) (low : Int) (high : Int) (h : Heap) (K : Value → Heap → Prop) : Prop :=
 Br (decide (IntKind.wrap IntKind.i64 (high - low) > 1))
 (∃ (a_1 : Option Addr),
 ∃ (n : Nat),
 ∃ (m : Nat),
 Heap.cell h b 1 = some (slice a_1 n m) ∧
 ∃ (b_1 : Bool),
 Heap.cell h rest 0 = some (Value.bool b_1) ∧
 ∃ (a_2 : Option Addr),
 ∃ (n_1 : Nat),
 ∃ (m_1 : Nat),
 Heap.cell h rest 1 = some (slice a_2 n_1 m_1) ∧
 CallA Try.prog fn_ref01_Of [int IntKind.i64 (IntKind.wrap IntKind.i64 (Int.tdiv (IntKind.wrap IntKind.i64 (low + high)) 2))] h fun (v : Value) (h_1 : Heap) =>
 ∃ (b_2 : Bool),
 ∃ (a_3 : Option Addr),
 ∃ (n_2 : Nat),
 ∃ (m_2 : Nat),
 v = agg #[Value.bool b_2, slice a_3 n_2 m_2] ∧
 (Heap.le h h_1 ∨ Keeps [b, rest] h h_1) ∧
 CallA Try.prog fn_ref01_Mul [agg #[Value.bool b_2, slice a_3 n_2 m_2], agg #[Value.bool false, slice a_1 n m]] h_1 fun (v : Value) (h : Heap) =>
 ∃ (b_3 : Bool),
 ∃ (a_4 : Option Addr),
 ∃ (n : Nat),
 ∃ (m : Nat),
 v = agg #[Value.bool b_3, slice a_4 n m] ∧
 (Heap.le h_1 h ∨ Keeps [rest] h_1 h) ∧
 CallA Try.prog fn_ref01_larger [agg #[Value.bool b_3, slice a_4 n m], agg #[Value.bool b_1, slice a_2 n_1 m_1]] h fun (v : Value) (h : Heap) =>
 ∃ (n : Int),
 v = int IntKind.i64 n ∧
 Br (decide (n ≤ 0)) (L_ref01_Div_2 up a b t6 rest q i (IntKind.wrap IntKind.i64 (Int.tdiv (IntKind.wrap IntKind.i64 (low + high)) 2)) high h K)
 (L_ref01_Div_2 up a b t6 rest q i low (IntKind.wrap IntKind.i64 (Int.tdiv (IntKind.wrap IntKind.i64 (low + high)) 2)) h K))
 (∃ (a_1 : Option Addr),
 ∃ (n : Nat),
 ∃ (m : Nat),
 Heap.cell h q 1 = some (slice a_1 n m) ∧
 0 ≤ i ∧
 i < (↑n : Int) ∧
 withAddr a_1 fun (b_1 o : Nat) =>
 Heap.canSt h b_1 (o + Int.toNat i) 1 ∧
 ∃ (b_2 : Bool),
 Heap.cell (Heap.setN h b_1 (o + Int.toNat i) [int IntKind.i64 low]) rest 0 = some (Value.bool b_2) ∧
 ∃ (a_2 : Option Addr),
 ∃ (n : Nat),
 ∃ (m : Nat),
 Heap.cell (Heap.setN h b_1 (o + Int.toNat i) [int IntKind.i64 low]) rest 1 = some (slice a_2 n m) ∧
 ∃ (a_3 : Option Addr),
 ∃ (n_1 : Nat),
 ∃ (m_1 : Nat),
 Heap.cell (Heap.setN h b_1 (o + Int.toNat i) [int IntKind.i64 low]) b 1 = some (slice a_3 n_1 m_1) ∧
 CallA Try.prog fn_ref01_Of [int IntKind.i64 low] (Heap.setN h b_1 (o + Int.toNat i) [int IntKind.i64 low]) fun (v : Value) (h_1 : Heap) =>
 ∃ (b_3 : Bool),
 ∃ (a_4 : Option Addr),
 ∃ (n_2 : Nat),
 ∃ (m_2 : Nat),
 v = agg #[Value.bool b_3, slice a_4 n_2 m_2] ∧
 (Heap.le (Heap.setN h b_1 (o + Int.toNat i) [int IntKind.i64 low]) h_1 ∨ Keeps [rest, b] (Heap.setN h b_1 (o + Int.toNat i) [int IntKind.i64 low]) h_1) ∧
 CallA Try.prog fn_ref01_Mul [agg #[Value.bool b_3, slice a_4 n_2 m_2], agg #[Value.bool false, slice a_3 n_1 m_1]] h_1 fun (v : Value) (h : Heap) =>
 ∃ (b_4 : Bool),
 ∃ (a_5 : Option Addr),
 ∃ (n_3 : Nat),
 ∃ (m_3 : Nat),
 v = agg #[Value.bool b_4, slice a_5 n_3 m_3] ∧
 (Heap.le h_1 h ∨ Keeps [rest] h_1 h) ∧
 CallA Try.prog fn_ref01_Turned [agg #[Value.bool b_4, slice a_5 n_3 m_3]] h fun (v : Value) (h_2 : Heap) =>
 ∃ (b_5 : Bool),
 ∃ (a_6 : Option Addr),
 ∃ (n_4 : Nat),
 ∃ (m_4 : Nat),
 v = agg #[Value.bool b_5, slice a_6 n_4 m_4] ∧
 (Heap.le h h_2 ∨ Keeps [rest] h h_2) ∧
 CallA Try.prog fn_ref01_Add [agg #[Value.bool b_2, slice a_2 n m], agg #[Value.bool b_5, slice a_6 n_4 m_4]] h_2 fun (v : Value) (h : Heap) =>
 ∃ (b_6 : Bool),
 ∃ (a_7 : Option Addr),
 ∃ (n : Nat),
 ∃ (m : Nat),
 v = agg #[Value.bool b_6, slice a_7 n m] ∧
 Heap.canSt h rest 0 2 ∧ L_ref01_Div_1 up a b t6 rest q i (Heap.setN h rest 0 [Value.bool b_6, slice a_7 n m]) K)
theorem L_ref01_Div_2r (up : Bool) (a : Nat) (b : Nat) (t6 : Nat) (rest : Nat) (q : Nat) (i : Int) (low : Int) (high : Int) (h : Heap) (K : Value → Heap → Prop) (k : L_ref01_Div_2T up a b t6 rest q i low high h K) : L_ref01_Div_2 up a b t6 rest q i low high h K :=
 LoopAt.of_ev (cs := []) Try.func63 mixed (fun junk => by kernel_rfl) k
def F_ref01_DivT (a_0 : Bool) (a_1 : Option Addr) (a_1n : Nat) (a_1c : Nat) (b_0 : Bool) (b_1 : Option Addr) (b_1n : Nat) (b_1c : Nat) (up : Bool) (h : Heap) (K : Value → Heap → Prop) : Prop :=
 newB h [Value.bool a_0, slice a_1 a_1n a_1c] 102 fun (r : Nat) (h : Heap) =>
 newB h [Value.bool b_0, slice b_1 b_1n b_1c] 102 fun (r_1 : Nat) (h : Heap) =>
 newB h [Value.bool false, slice none 0 0] 102 fun (r_2 : Nat) (h : Heap) =>
 newB h [Value.bool false, slice none 0 0] 102 fun (r_3 : Nat) (h : Heap) =>
 Heap.canSt h r_3 0 2 ∧
 ∃ (b : Bool),
 Heap.cell (Heap.setN h r_3 0 [Value.bool false, slice none 0 0]) r 0 = some (Value.bool b) ∧
 ∃ (a : Option Addr),
 ∃ (n : Nat),
 ∃ (m : Nat),
 Heap.cell (Heap.setN h r_3 0 [Value.bool false, slice none 0 0]) r 1 = some (slice a n m) ∧
 0 ≤ (↑n : Int) ∧
 (↑n : Int) ≤ (↑n : Int) ∧
 (↑n : Int) ≤ 281474976710656 ∧
 8 * (↑n : Int) ≤ 281474976710656 ∧
 newB (Heap.setN h r_3 0 [Value.bool false, slice none 0 0]) (repL (Int.toNat (↑n : Int)) [int IntKind.i64 0]) 3 fun (r_4 : Nat) (h : Heap) =>
 newB h [Value.bool false, slice none 0 0] 102 fun (r_5 : Nat) (h : Heap) =>
 Heap.canSt h r_5 0 2 ∧
 ∃ (a : Option Addr),
 ∃ (n_1 : Nat),
 ∃ (m : Nat),
 Heap.cell (Heap.setN h r_5 0 [Value.bool b, slice (some { block := r_4, off := 0 }) (Int.toNat (↑n : Int)) (Int.toNat (↑n : Int))]) r 1 = some (slice a n_1 m) ∧
 L_ref01_Div_0 up r r_1 r_2 r_3 r_5 (IntKind.wrap IntKind.i64 ((↑n_1 : Int) - 1))
 (Heap.setN h r_5 0 [Value.bool b, slice (some { block := r_4, off := 0 }) (Int.toNat (↑n : Int)) (Int.toNat (↑n : Int))]) K
theorem F_ref01_Div (a_0 : Bool) (a_1 : Option Addr) (a_1n : Nat) (a_1c : Nat) (b_0 : Bool) (b_1 : Option Addr) (b_1n : Nat) (b_1c : Nat) (up : Bool) (h : Heap) (K : Value → Heap → Prop) (k : F_ref01_DivT a_0 a_1 a_1n a_1c b_0 b_1 b_1n b_1c up h K) : CallA Try.prog fn_ref01_Div [agg #[Value.bool a_0, slice a_1 a_1n a_1c], agg #[Value.bool b_0, slice b_1 b_1n b_1c], Value.bool up] h K :=
 CallA.of_ev (cs := []) Try.func63 (by kernel_rfl) (fun _ _ => Try.call63 _ _) mixed (by kernel_rfl) (by kernel_rfl) k
end Go.Proofs.Ytghdadniddoboaa
