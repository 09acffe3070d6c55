import Derived.Test.YtkcogdmddhkldaaEqN
namespace Go.Proofs.Ytkcogdmddhkldaa
open Go Go.Sy Go.Value
set_option linter.unusedVariables false
set_option maxRecDepth 100000
def F_table_FindT (t : Option Addr) (tn : Nat) (tc : Nat) (code : ByteArray) (h : Heap) (K : Value → Heap → Prop) : Prop :=
 newB h [string code] 9 fun (r : Nat) (h : Heap) =>
 CallA Try.prog fn_slices_IndexFunc_api_Currency_api_Currency [slice t tn tc, func (Fn.func fn_table_Find_1) #[] #[pointer (some { block := r, off := 0 })]] h fun (v : Value) (h : Heap) =>
 ∃ (n : Int), v = int IntKind.i64 n ∧ Ret h K (tuple #[int IntKind.i64 (if 0 > n then 0 else n), Value.bool (decide (n ≥ 0))])
theorem F_table_Find (t : Option Addr) (tn : Nat) (tc : Nat) (code : ByteArray) (h : Heap) (K : Value → Heap → Prop) (k : F_table_FindT t tn tc code h K) : CallA Try.prog fn_table_Find [slice t tn tc, string code] h K :=
 CallA.of_ev (cs := []) Try.func99 (by kernel_rfl) (fun _ _ => Try.call99 _ _) mixed (by kernel_rfl) (by kernel_rfl) k
def L_table_Check_0 (t : Option Addr) (tn : Nat) (tc : Nat) (t19 : Option Addr) (t19n : Nat) (t19c : Nat) (t20 : Int) (t21 : Int) (h : Heap) (K : Value → Heap → Prop) : Prop :=
 LoopAt Try.prog Try.f64 64 (loopK Try.f64 0) (sp 60 [(0, slice t tn tc), (19, slice t19 t19n t19c), (20, int IntKind.i64 t20), (21, int IntKind.i64 t21)]) h K
def L_table_Check_1 (t : Option Addr) (tn : Nat) (tc : Nat) (t30 : Option Addr) (t30n : Nat) (t30c : Nat) (t31 : Int) (t32 : Int) (h : Heap) (K : Value → Heap → Prop) : Prop :=
 LoopAt Try.prog Try.f64 64 (loopK Try.f64 1) (sp 60 [(0, slice t tn tc), (30, slice t30 t30n t30c), (31, int IntKind.i64 t31), (32, int IntKind.i64 t32)]) h K
def L_table_Check_2 (t48 : Option Addr) (t48n : Nat) (t48c : Nat) (t49 : Int) (t50 : Int) (h : Heap) (K : Value → Heap → Prop) : Prop :=
 LoopAt Try.prog Try.f64 64 (loopK Try.f64 2) (sp 60 [(48, slice t48 t48n t48c), (49, int IntKind.i64 t49), (50, int IntKind.i64 t50)]) h K
def L_table_Check_0T (t : Option Addr) (tn : Nat) (tc : Nat) (t19 : Option Addr) (t19n : Nat) (t19c : Nat) (t20 : Int) (t21 : Int) (h : Heap) (K : Value → Heap → Prop) : Prop :=
 Br (decide (t21 < t20))
 (0 ≤ t21 ∧
 t21 < (↑t19n : Int) ∧
 withAddr t19 fun (b o : Nat) =>
 ∃ (s : ByteArray),
 Heap.cell h b (o + Int.toNat t21 * 3) = some (string s) ∧
 ∃ (n : Int),
 Heap.cell h b (o + Int.toNat t21 * 3 + 1) = some (int IntKind.i64 n) ∧
 ∃ (n_1 : Int),
 Heap.cell h b (o + Int.toNat t21 * 3 + 2) = some (int IntKind.i64 n_1) ∧
 newB h [string { data := #[] }, int IntKind.i64 0, int IntKind.i64 0] 106 fun (r : Nat) (h : Heap) =>
 Heap.canSt h r 0 3 ∧
 ∃ (s_1 : ByteArray),
 Heap.cell (Heap.setN h r 0 [string s, int IntKind.i64 n, int IntKind.i64 n_1]) r 0 = some (string s_1) ∧
 CallA Try.prog fn_table_formed [string s_1] (Heap.setN h r 0 [string s, int IntKind.i64 n, int IntKind.i64 n_1]) fun (v : Value) (h : Heap) =>
 ∃ (b : Bool), v = Value.bool b ∧ Br (!b) (Ret h K (int IntKind.i64 2)) (L_table_Check_0 t tn tc t19 t19n t19c t20 (IntKind.wrap IntKind.i64 (t21 + 1)) h K))
 (L_table_Check_1 t tn tc t tn tc (↑tn : Int) 0 h K)
theorem L_table_Check_0r (t : Option Addr) (tn : Nat) (tc : Nat) (t19 : Option Addr) (t19n : Nat) (t19c : Nat) (t20 : Int) (t21 : Int) (h : Heap) (K : Value → Heap → Prop) (k : L_table_Check_0T t tn tc t19 t19n t19c t20 t21 h K) : L_table_Check_0 t tn tc t19 t19n t19c t20 t21 h K :=
 LoopAt.of_ev (cs := []) Try.func64 mixed (fun junk => by kernel_rfl) k
def L_table_Check_1T (t : Option Addr) (tn : Nat) (tc : Nat) (t30 : Option Addr) (t30n : Nat) (t30c : Nat) (t31 : Int) (t32 : Int) (h : Heap) (K : Value → Heap → Prop) : Prop :=
 Br (decide (t32 < t31))
 (0 ≤ t32 ∧
 t32 < (↑t30n : Int) ∧
 withAddr t30 fun (b o : Nat) =>
 ∃ (s : ByteArray),
 Heap.cell h b (o + Int.toNat t32 * 3) = some (string s) ∧
 ∃ (n : Int),
 Heap.cell h b (o + Int.toNat t32 * 3 + 1) = some (int IntKind.i64 n) ∧
 ∃ (n_1 : Int),
 Heap.cell h b (o + Int.toNat t32 * 3 + 2) = some (int IntKind.i64 n_1) ∧
 newB h [string { data := #[] }, int IntKind.i64 0, int IntKind.i64 0] 106 fun (r : Nat) (h : Heap) =>
 Heap.canSt h r 0 3 ∧
 ∃ (s_1 : ByteArray),
 Heap.cell (Heap.setN h r 0 [string s, int IntKind.i64 n, int IntKind.i64 n_1]) r 0 = some (string s_1) ∧
 CallA Try.prog fn_table_Find [slice t tn tc, string s_1] (Heap.setN h r 0 [string s, int IntKind.i64 n, int IntKind.i64 n_1]) fun (v : Value) (h : Heap) =>
 ∃ (n : Int),
 ∃ (b : Bool), v = tuple #[int IntKind.i64 n, Value.bool b] ∧ Br (n != t32) (Ret h K (int IntKind.i64 6)) (L_table_Check_1 t tn tc t30 t30n t30c t31 (IntKind.wrap IntKind.i64 (t32 + 1)) h K))
 (L_table_Check_2 t tn tc (↑tn : Int) 0 h K)
theorem L_table_Check_1r (t : Option Addr) (tn : Nat) (tc : Nat) (t30 : Option Addr) (t30n : Nat) (t30c : Nat) (t31 : Int) (t32 : Int) (h : Heap) (K : Value → Heap → Prop) (k : L_table_Check_1T t tn tc t30 t30n t30c t31 t32 h K) : L_table_Check_1 t tn tc t30 t30n t30c t31 t32 h K :=
 LoopAt.of_ev (cs := []) Try.func64 mixed (fun junk => by kernel_rfl) k
def L_table_Check_2T (t48 : Option Addr) (t48n : Nat) (t48c : Nat) (t49 : Int) (t50 : Int) (h : Heap) (K : Value → Heap → Prop) : Prop :=
 Br (decide (t50 < t49))
 (0 ≤ t50 ∧
 t50 < (↑t48n : Int) ∧
 withAddr t48 fun (b o : Nat) =>
 ∃ (s : ByteArray),
 Heap.cell h b (o + Int.toNat t50 * 3) = some (string s) ∧
 ∃ (n : Int),
 Heap.cell h b (o + Int.toNat t50 * 3 + 1) = some (int IntKind.i64 n) ∧
 ∃ (n_1 : Int),
 Heap.cell h b (o + Int.toNat t50 * 3 + 2) = some (int IntKind.i64 n_1) ∧
 newB h [string { data := #[] }, int IntKind.i64 0, int IntKind.i64 0] 106 fun (r : Nat) (h : Heap) =>
 Heap.canSt h r 0 3 ∧
 ∃ (s_1 : ByteArray),
 Heap.cell (Heap.setN h r 0 [string s, int IntKind.i64 n, int IntKind.i64 n_1]) r 0 = some (string s_1) ∧
 ∃ (n_2 : Int),
 Heap.cell (Heap.setN h r 0 [string s, int IntKind.i64 n, int IntKind.i64 n_1]) r 1 = some (int IntKind.i64 n_2) ∧
 ∃ (n_3 : Int),
 Heap.cell (Heap.setN h r 0 [string s, int IntKind.i64 n, int IntKind.i64 n_1]) r 2 = some (int IntKind.i64 n_3) ∧
 CallA Try.prog fn_table_fits [int IntKind.i64 t50, agg #[string s_1, int IntKind.i64 n_2, int IntKind.i64 n_3]] (Heap.setN h r 0 [string s, int IntKind.i64 n, int IntKind.i64 n_1])
 fun (v : Value) (h : Heap) => ∃ (b : Bool), v = Value.bool b ∧ Br (!b) (Ret h K (int IntKind.i64 1)) (L_table_Check_2 t48 t48n t48c t49 (IntKind.wrap IntKind.i64 (t50 + 1)) h K))
 (Ret h K (int IntKind.i64 0))
theorem L_table_Check_2r (t48 : Option Addr) (t48n : Nat) (t48c : Nat) (t49 : Int) (t50 : Int) (h : Heap) (K : Value → Heap → Prop) (k : L_table_Check_2T t48 t48n t48c t49 t50 h K) : L_table_Check_2 t48 t48n t48c t49 t50 h K :=
 LoopAt.of_ev (cs := []) Try.func64 mixed (fun junk => by kernel_rfl) k
def F_table_CheckT (t : Option Addr) (tn : Nat) (tc : Nat) (h : Heap) (K : Value → Heap → Prop) : Prop :=
 Br ((↑tn : Int) == 0) (Ret h K (int IntKind.i64 4)) (Br (decide ((↑tn : Int) > 8)) (Ret h K (int IntKind.i64 4)) (L_table_Check_0 t tn tc t tn tc (↑tn : Int) 0 h K))
theorem F_table_Check (t : Option Addr) (tn : Nat) (tc : Nat) (h : Heap) (K : Value → Heap → Prop) (k : F_table_CheckT t tn tc h K) : CallA Try.prog fn_table_Check [slice t tn tc] h K :=
 CallA.of_ev (cs := []) Try.func64 (by kernel_rfl) (fun _ _ => Try.call64 _ _) mixed (by kernel_rfl) (by kernel_rfl) k
def L_ref03_Check_0 (t : Option Addr) (tn : Nat) (tc : Nat) (i : Int) (h : Heap) (K : Value → Heap → Prop) : Prop :=
 LoopAt Try.prog Try.f68 68 (loopK Try.f68 0) (sp 98 [(0, slice t tn tc), (3, int IntKind.i64 i)]) h K
def L_ref03_Check_1 (t : Option Addr) (tn : Nat) (tc : Nat) (i : Int) (h : Heap) (K : Value → Heap → Prop) : Prop :=
 LoopAt Try.prog Try.f68 68 (loopK Try.f68 1) (sp 98 [(0, slice t tn tc), (4, int IntKind.i64 i)]) h K
def L_ref03_Check_2 (t : Option Addr) (tn : Nat) (tc : Nat) (i : Int) (k' : Int) (h : Heap) (K : Value → Heap → Prop) : Prop :=
 LoopAt Try.prog Try.f68 68 (loopK Try.f68 2) (sp 98 [(0, slice t tn tc), (4, int IntKind.i64 i), (5, int IntKind.i64 k')]) h K
def L_ref03_Check_3 (t : Option Addr) (tn : Nat) (tc : Nat) (i : Int) (h : Heap) (K : Value → Heap → Prop) : Prop :=
 LoopAt Try.prog Try.f68 68 (loopK Try.f68 3) (sp 98 [(0, slice t tn tc), (6, int IntKind.i64 i)]) h K
def L_ref03_Check_0T (t : Option Addr) (tn : Nat) (tc : Nat) (i : Int) (h : Heap) (K : Value → Heap → Prop) : Prop :=
 Br (decide (i < (↑tn : Int)))
 (0 ≤ i ∧
 i < (↑tn : Int) ∧
 withAddr t fun (b o : Nat) =>
 ∃ (s : ByteArray),
 Heap.cell h b (o + Int.toNat i * 3) = some (string s) ∧
 CallA Try.prog fn_ref03_capital [string s] h fun (v : Value) (h : Heap) => ∃ (b : Bool), v = Value.bool b ∧ Br (!b) (Ret h K (int IntKind.i64 2)) (L_ref03_Check_0 t tn tc (IntKind.wrap IntKind.i64 (i + 1)) h K))
 (L_ref03_Check_1 t tn tc 0 h K)
theorem L_ref03_Check_0r (t : Option Addr) (tn : Nat) (tc : Nat) (i : Int) (h : Heap) (K : Value → Heap → Prop) (k : L_ref03_Check_0T t tn tc i h K) : L_ref03_Check_0 t tn tc i h K :=
 LoopAt.of_ev (cs := []) Try.func68 mixed (fun junk => by kernel_rfl) k
def L_ref03_Check_1T (t : Option Addr) (tn : Nat) (tc : Nat) (i : Int) (h : Heap) (K : Value → Heap → Prop) : Prop :=
 Br (decide (i < (↑tn : Int))) (L_ref03_Check_2 t tn tc i 0 h K)
 ((0 : Int) ≤ 0 ∧
 0 < (↑tn : Int) ∧
 withAddr t fun (b o : Nat) =>
 ∃ (n : Int),
 Heap.cell h b (o + 1) = some (int IntKind.i64 n) ∧
 Br (n != 10000) (Ret h K (int IntKind.i64 1))
 ((0 : Int) ≤ 0 ∧ 0 < (↑tn : Int) ∧ withAddr t fun (b o : Nat) => ∃ (n : Int), Heap.cell h b (o + 2) = some (int IntKind.i64 n) ∧ Br (n != 0) (Ret h K (int IntKind.i64 1)) (L_ref03_Check_3 t tn tc 0 h K)))
theorem L_ref03_Check_1r (t : Option Addr) (tn : Nat) (tc : Nat) (i : Int) (h : Heap) (K : Value → Heap → Prop) (k : L_ref03_Check_1T t tn tc i h K) : L_ref03_Check_1 t tn tc i h K :=
 LoopAt.of_ev (cs := []) Try.func68 mixed (fun junk => by kernel_rfl) k
def L_ref03_Check_2T (t : Option Addr) (tn : Nat) (tc : Nat) (i : Int) (k' : Int) (h : Heap) (K : Value → Heap → Prop) : Prop :=
 Br (decide (k' < i))
 (0 ≤ i ∧
 i < (↑tn : Int) ∧
 withAddr t fun (b o : Nat) =>
 ∃ (s : ByteArray),
 Heap.cell h b (o + Int.toNat i * 3) = some (string s) ∧
 0 ≤ k' ∧
 k' < (↑tn : Int) ∧
 withAddr t fun (b o : Nat) =>
 ∃ (s_1 : ByteArray),
 Heap.cell h b (o + Int.toNat k' * 3) = some (string s_1) ∧ Br (ByteArray.toList s == ByteArray.toList s_1) (Ret h K (int IntKind.i64 6)) (L_ref03_Check_2 t tn tc i (IntKind.wrap IntKind.i64 (k' + 1)) h K))
 (L_ref03_Check_1 t tn tc (IntKind.wrap IntKind.i64 (i + 1)) h K)
theorem L_ref03_Check_2r (t : Option Addr) (tn : Nat) (tc : Nat) (i : Int) (k' : Int) (h : Heap) (K : Value → Heap → Prop) (k : L_ref03_Check_2T t tn tc i k' h K) : L_ref03_Check_2 t tn tc i k' h K :=
 LoopAt.of_ev (cs := []) Try.func68 mixed (fun junk => by kernel_rfl) k
def L_ref03_Check_3T (t : Option Addr) (tn : Nat) (tc : Nat) (i : Int) (h : Heap) (K : Value → Heap → Prop) : Prop :=
 Br (decide (i < (↑tn : Int)))
 (0 ≤ i ∧
 i < (↑tn : Int) ∧
 withAddr t fun (b o : Nat) =>
 ∃ (n : Int),
 Heap.cell h b (o + Int.toNat i * 3 + 1) = some (int IntKind.i64 n) ∧
 Br (decide (n < 1)) (Ret h K (int IntKind.i64 1))
 (0 ≤ i ∧
 i < (↑tn : Int) ∧
 withAddr t fun (b o : Nat) =>
 ∃ (n : Int),
 Heap.cell h b (o + Int.toNat i * 3 + 1) = some (int IntKind.i64 n) ∧
 Br (decide (n > 100000000)) (Ret h K (int IntKind.i64 1))
 (0 ≤ i ∧
 i < (↑tn : Int) ∧
 withAddr t fun (b o : Nat) =>
 ∃ (n : Int),
 Heap.cell h b (o + Int.toNat i * 3 + 2) = some (int IntKind.i64 n) ∧
 Br (decide (n < 0)) (Ret h K (int IntKind.i64 1))
 (0 ≤ i ∧
 i < (↑tn : Int) ∧
 withAddr t fun (b o : Nat) =>
 ∃ (n : Int),
 Heap.cell h b (o + Int.toNat i * 3 + 2) = some (int IntKind.i64 n) ∧
 Br (decide (n > 10000)) (Ret h K (int IntKind.i64 1)) (L_ref03_Check_3 t tn tc (IntKind.wrap IntKind.i64 (i + 1)) h K)))))
 (Ret h K (int IntKind.i64 0))
theorem L_ref03_Check_3r (t : Option Addr) (tn : Nat) (tc : Nat) (i : Int) (h : Heap) (K : Value → Heap → Prop) (k : L_ref03_Check_3T t tn tc i h K) : L_ref03_Check_3 t tn tc i h K :=
 LoopAt.of_ev (cs := []) Try.func68 mixed (fun junk => by kernel_rfl) k
def F_ref03_CheckT (t : Option Addr) (tn : Nat) (tc : Nat) (h : Heap) (K : Value → Heap → Prop) : Prop :=
 Br (decide ((↑tn : Int) < 1)) (Ret h K (int IntKind.i64 4)) (Br (decide ((↑tn : Int) > 8)) (Ret h K (int IntKind.i64 4)) (L_ref03_Check_0 t tn tc 0 h K))
theorem F_ref03_Check (t : Option Addr) (tn : Nat) (tc : Nat) (h : Heap) (K : Value → Heap → Prop) (k : F_ref03_CheckT t tn tc h K) : CallA Try.prog fn_ref03_Check [slice t tn tc] h K :=
 CallA.of_ev (cs := []) Try.func68 (by kernel_rfl) (fun _ _ => Try.call68 _ _) mixed (by kernel_rfl) (by kernel_rfl) k
def F_table_ChangeT (t : Option Addr) (tn : Nat) (tc : Nat) (from' : Int) (to : Int) (amount : Int) (up : Bool) (h : Heap) (K : Value → Heap → Prop) : Prop :=
 CallA Try.prog fn_table_has [slice t tn tc, int IntKind.i64 from'] h fun (v : Value) (h : Heap) =>
 ∃ (b : Bool),
 v = Value.bool b ∧
 Br (!b) (Ret h K (tuple #[int IntKind.i64 0, int IntKind.i64 1]))
 (CallA Try.prog fn_table_has [slice t tn tc, int IntKind.i64 to] h fun (v : Value) (h : Heap) =>
 ∃ (b : Bool),
 v = Value.bool b ∧
 Br (!b) (Ret h K (tuple #[int IntKind.i64 0, int IntKind.i64 1]))
 (0 ≤ from' ∧
 from' < (↑tn : Int) ∧
 withAddr t fun (b o : Nat) =>
 ∃ (n : Int),
 Heap.cell h b (o + Int.toNat from' * 3 + 1) = some (int IntKind.i64 n) ∧
 0 ≤ to ∧
 to < (↑tn : Int) ∧
 withAddr t fun (b o : Nat) =>
 ∃ (n_1 : Int),
 Heap.cell h b (o + Int.toNat to * 3 + 1) = some (int IntKind.i64 n_1) ∧
 CallA Try.prog fn_money_MulDiv [int IntKind.i64 amount, int IntKind.i64 n, int IntKind.i64 n_1, Value.bool up] h fun (v : Value) (h : Heap) =>
 ∃ (n : Int), ∃ (n_2 : Int), v = tuple #[int IntKind.i64 n, int IntKind.i64 n_2] ∧ Ret h K (tuple #[int IntKind.i64 n, int IntKind.i64 n_2])))
theorem F_table_Change (t : Option Addr) (tn : Nat) (tc : Nat) (from' : Int) (to : Int) (amount : Int) (up : Bool) (h : Heap) (K : Value → Heap → Prop) (k : F_table_ChangeT t tn tc from' to amount up h K) : CallA Try.prog fn_table_Change [slice t tn tc, int IntKind.i64 from', int IntKind.i64 to, int IntKind.i64 amount, Value.bool up] h K :=
 CallA.of_ev (cs := []) Try.func124 (by kernel_rfl) (fun _ _ => Try.call124 _ _) mixed (by kernel_rfl) (by kernel_rfl) k
def F_ref03_ChangeT (t : Option Addr) (tn : Nat) (tc : Nat) (from' : Int) (to : Int) (amount : Int) (up : Bool) (h : Heap) (K : Value → Heap → Prop) : Prop :=
 Br (decide (from' < 0)) (Ret h K (tuple #[int IntKind.i64 0, int IntKind.i64 1]))
 (Br (decide (from' ≥ (↑tn : Int))) (Ret h K (tuple #[int IntKind.i64 0, int IntKind.i64 1]))
 (Br (decide (to < 0)) (Ret h K (tuple #[int IntKind.i64 0, int IntKind.i64 1]))
 (Br (decide (to ≥ (↑tn : Int))) (Ret h K (tuple #[int IntKind.i64 0, int IntKind.i64 1]))
 (0 ≤ from' ∧
 from' < (↑tn : Int) ∧
 withAddr t fun (b o : Nat) =>
 ∃ (n : Int),
 Heap.cell h b (o + Int.toNat from' * 3 + 1) = some (int IntKind.i64 n) ∧
 0 ≤ to ∧
 to < (↑tn : Int) ∧
 withAddr t fun (b o : Nat) =>
 ∃ (n_1 : Int),
 Heap.cell h b (o + Int.toNat to * 3 + 1) = some (int IntKind.i64 n_1) ∧
 CallA Try.prog fn_ref01_MulDiv [int IntKind.i64 amount, int IntKind.i64 n, int IntKind.i64 n_1, Value.bool up] h fun (v : Value) (h : Heap) =>
 ∃ (n : Int), ∃ (n_2 : Int), v = tuple #[int IntKind.i64 n, int IntKind.i64 n_2] ∧ Ret h K (tuple #[int IntKind.i64 n, int IntKind.i64 n_2])))))
theorem F_ref03_Change (t : Option Addr) (tn : Nat) (tc : Nat) (from' : Int) (to : Int) (amount : Int) (up : Bool) (h : Heap) (K : Value → Heap → Prop) (k : F_ref03_ChangeT t tn tc from' to amount up h K) : CallA Try.prog fn_ref03_Change [slice t tn tc, int IntKind.i64 from', int IntKind.i64 to, int IntKind.i64 amount, Value.bool up] h K :=
 CallA.of_ev (cs := []) Try.func72 (by kernel_rfl) (fun _ _ => Try.call72 _ _) mixed (by kernel_rfl) (by kernel_rfl) k
def L_slices_IndexFunc_api_Currency_api_Currency_0 (s : Option Addr) (sn : Nat) (sc : Nat) (f_0 : Nat) (t7 : Int) (t8 : Int) (h : Heap) (K : Value → Heap → Prop) : Prop :=
 LoopAt Try.prog Try.f120 120 (loopK Try.f120 0) (sp 19 [(0, slice s sn sc), (1, func (Fn.func fn_table_Find_1) #[] #[pointer (some { block := f_0, off := 0 })]), (7, int IntKind.i64 t7), (8, int IntKind.i64 t8)]) h K
def L_slices_IndexFunc_api_Currency_api_Currency_0T (s : Option Addr) (sn : Nat) (sc : Nat) (f_0 : Nat) (t7 : Int) (t8 : Int) (h : Heap) (K : Value → Heap → Prop) : Prop :=
 Br (decide (t8 < t7))
 (0 ≤ t8 ∧
 t8 < (↑sn : Int) ∧
 withAddr s fun (b o : Nat) =>
 ∃ (s_1 : ByteArray),
 Heap.cell h b (o + Int.toNat t8 * 3) = some (string s_1) ∧
 ∃ (n : Int),
 Heap.cell h b (o + Int.toNat t8 * 3 + 1) = some (int IntKind.i64 n) ∧
 ∃ (n_1 : Int),
 Heap.cell h b (o + Int.toNat t8 * 3 + 2) = some (int IntKind.i64 n_1) ∧
 CallA Try.prog fn_table_Find_1 [agg #[string s_1, int IntKind.i64 n, int IntKind.i64 n_1], pointer (some { block := f_0, off := 0 })] h fun (v : Value) (h : Heap) =>
 ∃ (b : Bool), v = Value.bool b ∧ Br b (Ret h K (int IntKind.i64 t8)) (L_slices_IndexFunc_api_Currency_api_Currency_0 s sn sc f_0 t7 (IntKind.wrap IntKind.i64 (t8 + 1)) h K))
 (Ret h K (int IntKind.i64 (-1)))
theorem L_slices_IndexFunc_api_Currency_api_Currency_0r (s : Option Addr) (sn : Nat) (sc : Nat) (f_0 : Nat) (t7 : Int) (t8 : Int) (h : Heap) (K : Value → Heap → Prop) (k : L_slices_IndexFunc_api_Currency_api_Currency_0T s sn sc f_0 t7 t8 h K) : L_slices_IndexFunc_api_Currency_api_Currency_0 s sn sc f_0 t7 t8 h K :=
 LoopAt.of_ev (cs := []) Try.func120 mixed (fun junk => by kernel_rfl) k
def F_slices_IndexFunc_api_Currency_api_CurrencyT (s : Option Addr) (sn : Nat) (sc : Nat) (fr0 : Nat) (h : Heap) (K : Value → Heap → Prop) : Prop :=
 L_slices_IndexFunc_api_Currency_api_Currency_0 s sn sc fr0 (↑sn : Int) 0 h K
theorem F_slices_IndexFunc_api_Currency_api_Currency (s : Option Addr) (sn : Nat) (sc : Nat) (fr0 : Nat) (h : Heap) (K : Value → Heap → Prop) (k : F_slices_IndexFunc_api_Currency_api_CurrencyT s sn sc fr0 h K) : CallA Try.prog fn_slices_IndexFunc_api_Currency_api_Currency [slice s sn sc, func (Fn.func fn_table_Find_1) #[] #[pointer (some { block := fr0, off := 0 })]] h K :=
 CallA.of_ev (cs := []) Try.func120 (by kernel_rfl) (fun _ _ => Try.call120 _ _) mixed (by kernel_rfl) (by kernel_rfl) k
def F_table_Find_1T (c_0 : ByteArray) (c_1 : Int) (c_2 : Int) (c0 : Nat) (h : Heap) (K : Value → Heap → Prop) : Prop :=
 newB h [string c_0, int IntKind.i64 c_1, int IntKind.i64 c_2] 106 fun (r : Nat) (h : Heap) =>
 ∃ (s : ByteArray), Heap.cell h r 0 = some (string s) ∧ ∃ (s_1 : ByteArray), Heap.cell h c0 0 = some (string s_1) ∧ Ret h K (Value.bool (ByteArray.toList s == ByteArray.toList s_1))
theorem F_table_Find_1 (c_0 : ByteArray) (c_1 : Int) (c_2 : Int) (c0 : Nat) (h : Heap) (K : Value → Heap → Prop) (k : F_table_Find_1T c_0 c_1 c_2 c0 h K) : CallA Try.prog fn_table_Find_1 [agg #[string c_0, int IntKind.i64 c_1, int IntKind.i64 c_2], pointer (some { block := c0, off := 0 })] h K :=
 CallA.of_ev (cs := []) Try.func121 (by kernel_rfl) (fun _ _ => Try.call121 _ _) mixed (by kernel_rfl) (by kernel_rfl) k
def L_table_formed_0 (code : ByteArray) (t6 : Nat) (h : Heap) (K : Value → Heap → Prop) : Prop :=
 LoopAt Try.prog Try.f98 98 (loopK Try.f98 0) (sp 19 [(0, string code), (6, pointer (some { block := t6, off := 0 }))]) h K
def L_table_formed_0T (code : ByteArray) (t6 : Nat) (h : Heap) (K : Value → Heap → Prop) : Prop :=
 ∃ (s : ByteArray),
 ∃ (pos : Nat),
 h t6 = some (Obj.stringIter s pos) ∧
 Br (decide (pos < ByteArray.size s))
 (Br (decide ((↑(Prod.fst (Utf8.decode s pos)) : Int) < 65)) (Ret (Heap.ins h t6 (Obj.stringIter s (pos + Prod.snd (Utf8.decode s pos)))) K (Value.bool false))
 (Br (decide ((↑(Prod.fst (Utf8.decode s pos)) : Int) > 90)) (Ret (Heap.ins h t6 (Obj.stringIter s (pos + Prod.snd (Utf8.decode s pos)))) K (Value.bool false))
 (L_table_formed_0 code t6 (Heap.ins h t6 (Obj.stringIter s (pos + Prod.snd (Utf8.decode s pos)))) K)))
 (Ret h K (Value.bool ((↑(ByteArray.size code) : Int) == 3)))
theorem L_table_formed_0r (code : ByteArray) (t6 : Nat) (h : Heap) (K : Value → Heap → Prop) (k : L_table_formed_0T code t6 h K) : L_table_formed_0 code t6 h K :=
 LoopAt.of_ev (cs := []) Try.func98 mixed (fun junk => by kernel_rfl) k
def F_table_formedT (code : ByteArray) (h : Heap) (K : Value → Heap → Prop) : Prop :=
 newI h code fun (r : Nat) (h : Heap) => L_table_formed_0 code r h K
theorem F_table_formed (code : ByteArray) (h : Heap) (K : Value → Heap → Prop) (k : F_table_formedT code h K) : CallA Try.prog fn_table_formed [string code] h K :=
 CallA.of_ev (cs := []) Try.func98 (by kernel_rfl) (fun _ _ => Try.call98 _ _) mixed (by kernel_rfl) (by kernel_rfl) k
def F_table_fitsT (at' : Int) (c_0 : ByteArray) (c_1 : Int) (c_2 : Int) (h : Heap) (K : Value → Heap → Prop) : Prop :=
 newB h [string c_0, int IntKind.i64 c_1, int IntKind.i64 c_2] 106 fun (r : Nat) (h : Heap) =>
 Br (at' == 0) (∃ (n : Int), Heap.cell h r 1 = some (int IntKind.i64 n) ∧ Br (n == 10000) (∃ (n : Int), Heap.cell h r 2 = some (int IntKind.i64 n) ∧ Ret h K (Value.bool (n == 0))) (Ret h K (Value.bool false)))
 (∃ (n : Int),
 Heap.cell h r 1 = some (int IntKind.i64 n) ∧
 Br (decide (n ≥ 1))
 (∃ (n : Int),
 Heap.cell h r 1 = some (int IntKind.i64 n) ∧
 Br (decide (n ≤ 100000000))
 (∃ (n : Int),
 Heap.cell h r 2 = some (int IntKind.i64 n) ∧ Br (decide (n ≥ 0)) (∃ (n : Int), Heap.cell h r 2 = some (int IntKind.i64 n) ∧ Ret h K (Value.bool (decide (n ≤ 10000)))) (Ret h K (Value.bool false)))
 (Ret h K (Value.bool false)))
 (Ret h K (Value.bool false)))
theorem F_table_fits (at' : Int) (c_0 : ByteArray) (c_1 : Int) (c_2 : Int) (h : Heap) (K : Value → Heap → Prop) (k : F_table_fitsT at' c_0 c_1 c_2 h K) : CallA Try.prog fn_table_fits [int IntKind.i64 at', agg #[string c_0, int IntKind.i64 c_1, int IntKind.i64 c_2]] h K :=
 CallA.of_ev (cs := []) Try.func100 (by kernel_rfl) (fun _ _ => Try.call100 _ _) mixed (by kernel_rfl) (by kernel_rfl) k
def F_ref03_capitalT (s : ByteArray) (h : Heap) (K : Value → Heap → Prop) : Prop :=
 Br ((↑(ByteArray.size s) : Int) != 3) (Ret h K (Value.bool false))
 ((0 : Int) ≤ 0 ∧
 ∃ (c : UInt8),
 s[0]? = some c ∧
 Br (decide ((↑(UInt8.toNat c) : Int) ≥ 65))
 ((0 : Int) ≤ 0 ∧
 ∃ (c : UInt8),
 s[0]? = some c ∧
 Br (decide ((↑(UInt8.toNat c) : Int) ≤ 90))
 ((0 : Int) ≤ 1 ∧
 ∃ (c : UInt8),
 s[1]? = some c ∧
 Br (decide ((↑(UInt8.toNat c) : Int) ≥ 65))
 ((0 : Int) ≤ 1 ∧
 ∃ (c : UInt8),
 s[1]? = some c ∧
 Br (decide ((↑(UInt8.toNat c) : Int) ≤ 90))
 ((0 : Int) ≤ 2 ∧
 ∃ (c : UInt8),
 s[2]? = some c ∧
 Br (decide ((↑(UInt8.toNat c) : Int) ≥ 65)) ((0 : Int) ≤ 2 ∧ ∃ (c : UInt8), s[2]? = some c ∧ Ret h K (Value.bool (decide ((↑(UInt8.toNat c) : Int) ≤ 90)))) (Ret h K (Value.bool false)))
 (Ret h K (Value.bool false)))
 (Ret h K (Value.bool false)))
 (Ret h K (Value.bool false)))
 (Ret h K (Value.bool false)))
theorem F_ref03_capital (s : ByteArray) (h : Heap) (K : Value → Heap → Prop) (k : F_ref03_capitalT s h K) : CallA Try.prog fn_ref03_capital [string s] h K :=
 CallA.of_ev (cs := []) Try.func104 (by kernel_rfl) (fun _ _ => Try.call104 _ _) mixed (by kernel_rfl) (by kernel_rfl) k
def F_table_hasT (t : Option Addr) (tn : Nat) (tc : Nat) (cur : Int) (h : Heap) (K : Value → Heap → Prop) : Prop :=
 Br (decide (cur ≥ 0)) (Ret h K (Value.bool (decide (cur < (↑tn : Int))))) (Ret h K (Value.bool false))
theorem F_table_has (t : Option Addr) (tn : Nat) (tc : Nat) (cur : Int) (h : Heap) (K : Value → Heap → Prop) (k : F_table_hasT t tn tc cur h K) : CallA Try.prog fn_table_has [slice t tn tc, int IntKind.i64 cur] h K :=
 CallA.of_ev (cs := []) Try.func136 (by kernel_rfl) (fun _ _ => Try.call136 _ _) mixed (by kernel_rfl) (by kernel_rfl) k
end Go.Proofs.Ytkcogdmddhkldaa
