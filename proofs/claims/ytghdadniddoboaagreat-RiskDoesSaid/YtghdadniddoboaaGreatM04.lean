import Derived.Test.YtghdadniddoboaaGreatM03
namespace Go.Proofs.YtghdadniddoboaaGreat
open Go Go.Sy Go.Value
set_option linter.unusedVariables false
set_option maxRecDepth 100000
def F_table_FindT (t : Option Addr) (tn : Nat) (tc : Nat) (code : ByteArray) (h : Heap) (K : Value → Heap → Prop) : Prop :=
 newB h [string code] 9 fun (r : Nat) (h : Heap) =>
 CallA Tryz.prog fn_slices_IndexFunc_api_Currency_api_Currency [slice t tn tc, func (Fn.func fn_table_Find_1) #[] #[pointer (some { block := r, off := 0 })]] h fun (v : Value) (h : Heap) =>
 ∃ (n : Int), v = int IntKind.i64 n ∧ Ret h K (tuple #[int IntKind.i64 (if 0 > n then 0 else n), Value.bool (decide (n ≥ 0))])
theorem F_table_Find (t : Option Addr) (tn : Nat) (tc : Nat) (code : ByteArray) (h : Heap) (K : Value → Heap → Prop) (k : F_table_FindT t tn tc code h K) : CallA Tryz.prog fn_table_Find [slice t tn tc, string code] h K :=
 CallA.of_ev (cs := []) Tryz.func102 (by kernel_rfl) (fun _ _ => Tryz.call102 _ _) mixed (by kernel_rfl) (by kernel_rfl) k
def L_table_Check_0 (t : Option Addr) (tn : Nat) (tc : Nat) (t19 : Option Addr) (t19n : Nat) (t19c : Nat) (t20 : Int) (t21 : Int) (h : Heap) (K : Value → Heap → Prop) : Prop :=
 LoopAt Tryz.prog Tryz.f74 74 (loopK Tryz.f74 0) (sp 60 [(0, slice t tn tc), (19, slice t19 t19n t19c), (20, int IntKind.i64 t20), (21, int IntKind.i64 t21)]) h K
def L_table_Check_1 (t : Option Addr) (tn : Nat) (tc : Nat) (t30 : Option Addr) (t30n : Nat) (t30c : Nat) (t31 : Int) (t32 : Int) (h : Heap) (K : Value → Heap → Prop) : Prop :=
 LoopAt Tryz.prog Tryz.f74 74 (loopK Tryz.f74 1) (sp 60 [(0, slice t tn tc), (30, slice t30 t30n t30c), (31, int IntKind.i64 t31), (32, int IntKind.i64 t32)]) h K
def L_table_Check_2 (t48 : Option Addr) (t48n : Nat) (t48c : Nat) (t49 : Int) (t50 : Int) (h : Heap) (K : Value → Heap → Prop) : Prop :=
 LoopAt Tryz.prog Tryz.f74 74 (loopK Tryz.f74 2) (sp 60 [(48, slice t48 t48n t48c), (49, int IntKind.i64 t49), (50, int IntKind.i64 t50)]) h K
def L_table_Check_0T (t : Option Addr) (tn : Nat) (tc : Nat) (t19 : Option Addr) (t19n : Nat) (t19c : Nat) (t20 : Int) (t21 : Int) (h : Heap) (K : Value → Heap → Prop) : Prop :=
 Br (decide (t21 < t20))
 (0 ≤ t21 ∧
 t21 < (↑t19n : Int) ∧
 withAddr t19 fun (b o : Nat) =>
 ∃ (s : ByteArray),
 Heap.cell h b (o + Int.toNat t21 * 3) = some (string s) ∧
 ∃ (n : Int),
 Heap.cell h b (o + Int.toNat t21 * 3 + 1) = some (int IntKind.i64 n) ∧
 ∃ (n_1 : Int),
 Heap.cell h b (o + Int.toNat t21 * 3 + 2) = some (int IntKind.i64 n_1) ∧
 newB h [string { data := #[] }, int IntKind.i64 0, int IntKind.i64 0] 60 fun (r : Nat) (h : Heap) =>
 Heap.canSt h r 0 3 ∧
 ∃ (s_1 : ByteArray),
 Heap.cell (Heap.setN h r 0 [string s, int IntKind.i64 n, int IntKind.i64 n_1]) r 0 = some (string s_1) ∧
 CallA Tryz.prog fn_table_formed [string s_1] (Heap.setN h r 0 [string s, int IntKind.i64 n, int IntKind.i64 n_1]) fun (v : Value) (h : Heap) =>
 ∃ (b : Bool), v = Value.bool b ∧ Br (!b) (Ret h K (int IntKind.i64 2)) (L_table_Check_0 t tn tc t19 t19n t19c t20 (IntKind.wrap IntKind.i64 (t21 + 1)) h K))
 (L_table_Check_1 t tn tc t tn tc (↑tn : Int) 0 h K)
theorem L_table_Check_0r (t : Option Addr) (tn : Nat) (tc : Nat) (t19 : Option Addr) (t19n : Nat) (t19c : Nat) (t20 : Int) (t21 : Int) (h : Heap) (K : Value → Heap → Prop) (k : L_table_Check_0T t tn tc t19 t19n t19c t20 t21 h K) : L_table_Check_0 t tn tc t19 t19n t19c t20 t21 h K :=
 LoopAt.of_ev (cs := []) Tryz.func74 mixed (fun junk => by kernel_rfl) k
def L_table_Check_1T (t : Option Addr) (tn : Nat) (tc : Nat) (t30 : Option Addr) (t30n : Nat) (t30c : Nat) (t31 : Int) (t32 : Int) (h : Heap) (K : Value → Heap → Prop) : Prop :=
 Br (decide (t32 < t31))
 (0 ≤ t32 ∧
 t32 < (↑t30n : Int) ∧
 withAddr t30 fun (b o : Nat) =>
 ∃ (s : ByteArray),
 Heap.cell h b (o + Int.toNat t32 * 3) = some (string s) ∧
 ∃ (n : Int),
 Heap.cell h b (o + Int.toNat t32 * 3 + 1) = some (int IntKind.i64 n) ∧
 ∃ (n_1 : Int),
 Heap.cell h b (o + Int.toNat t32 * 3 + 2) = some (int IntKind.i64 n_1) ∧
 newB h [string { data := #[] }, int IntKind.i64 0, int IntKind.i64 0] 60 fun (r : Nat) (h : Heap) =>
 Heap.canSt h r 0 3 ∧
 ∃ (s_1 : ByteArray),
 Heap.cell (Heap.setN h r 0 [string s, int IntKind.i64 n, int IntKind.i64 n_1]) r 0 = some (string s_1) ∧
 CallA Tryz.prog fn_table_Find [slice t tn tc, string s_1] (Heap.setN h r 0 [string s, int IntKind.i64 n, int IntKind.i64 n_1]) fun (v : Value) (h : Heap) =>
 ∃ (n : Int),
 ∃ (b : Bool), v = tuple #[int IntKind.i64 n, Value.bool b] ∧ Br (n != t32) (Ret h K (int IntKind.i64 6)) (L_table_Check_1 t tn tc t30 t30n t30c t31 (IntKind.wrap IntKind.i64 (t32 + 1)) h K))
 (L_table_Check_2 t tn tc (↑tn : Int) 0 h K)
theorem L_table_Check_1r (t : Option Addr) (tn : Nat) (tc : Nat) (t30 : Option Addr) (t30n : Nat) (t30c : Nat) (t31 : Int) (t32 : Int) (h : Heap) (K : Value → Heap → Prop) (k : L_table_Check_1T t tn tc t30 t30n t30c t31 t32 h K) : L_table_Check_1 t tn tc t30 t30n t30c t31 t32 h K :=
 LoopAt.of_ev (cs := []) Tryz.func74 mixed (fun junk => by kernel_rfl) k
def L_table_Check_2T (t48 : Option Addr) (t48n : Nat) (t48c : Nat) (t49 : Int) (t50 : Int) (h : Heap) (K : Value → Heap → Prop) : Prop :=
 Br (decide (t50 < t49))
 (0 ≤ t50 ∧
 t50 < (↑t48n : Int) ∧
 withAddr t48 fun (b o : Nat) =>
 ∃ (s : ByteArray),
 Heap.cell h b (o + Int.toNat t50 * 3) = some (string s) ∧
 ∃ (n : Int),
 Heap.cell h b (o + Int.toNat t50 * 3 + 1) = some (int IntKind.i64 n) ∧
 ∃ (n_1 : Int),
 Heap.cell h b (o + Int.toNat t50 * 3 + 2) = some (int IntKind.i64 n_1) ∧
 newB h [string { data := #[] }, int IntKind.i64 0, int IntKind.i64 0] 60 fun (r : Nat) (h : Heap) =>
 Heap.canSt h r 0 3 ∧
 ∃ (s_1 : ByteArray),
 Heap.cell (Heap.setN h r 0 [string s, int IntKind.i64 n, int IntKind.i64 n_1]) r 0 = some (string s_1) ∧
 ∃ (n_2 : Int),
 Heap.cell (Heap.setN h r 0 [string s, int IntKind.i64 n, int IntKind.i64 n_1]) r 1 = some (int IntKind.i64 n_2) ∧
 ∃ (n_3 : Int),
 Heap.cell (Heap.setN h r 0 [string s, int IntKind.i64 n, int IntKind.i64 n_1]) r 2 = some (int IntKind.i64 n_3) ∧
 CallA Tryz.prog fn_table_fits [int IntKind.i64 t50, agg #[string s_1, int IntKind.i64 n_2, int IntKind.i64 n_3]] (Heap.setN h r 0 [string s, int IntKind.i64 n, int IntKind.i64 n_1])
 fun (v : Value) (h : Heap) => ∃ (b : Bool), v = Value.bool b ∧ Br (!b) (Ret h K (int IntKind.i64 1)) (L_table_Check_2 t48 t48n t48c t49 (IntKind.wrap IntKind.i64 (t50 + 1)) h K))
 (Ret h K (int IntKind.i64 0))
theorem L_table_Check_2r (t48 : Option Addr) (t48n : Nat) (t48c : Nat) (t49 : Int) (t50 : Int) (h : Heap) (K : Value → Heap → Prop) (k : L_table_Check_2T t48 t48n t48c t49 t50 h K) : L_table_Check_2 t48 t48n t48c t49 t50 h K :=
 LoopAt.of_ev (cs := []) Tryz.func74 mixed (fun junk => by kernel_rfl) k
def F_table_CheckT (t : Option Addr) (tn : Nat) (tc : Nat) (h : Heap) (K : Value → Heap → Prop) : Prop :=
 Br ((↑tn : Int) == 0) (Ret h K (int IntKind.i64 4)) (Br (decide ((↑tn : Int) > 8)) (Ret h K (int IntKind.i64 4)) (L_table_Check_0 t tn tc t tn tc (↑tn : Int) 0 h K))
theorem F_table_Check (t : Option Addr) (tn : Nat) (tc : Nat) (h : Heap) (K : Value → Heap → Prop) (k : F_table_CheckT t tn tc h K) : CallA Tryz.prog fn_table_Check [slice t tn tc] h K :=
 CallA.of_ev (cs := []) Tryz.func74 (by kernel_rfl) (fun _ _ => Tryz.call74 _ _) mixed (by kernel_rfl) (by kernel_rfl) k
def L_ref03_Check_0 (t : Option Addr) (tn : Nat) (tc : Nat) (i : Int) (h : Heap) (K : Value → Heap → Prop) : Prop :=
 LoopAt Tryz.prog Tryz.f38 38 (loopK Tryz.f38 0) (sp 98 [(0, slice t tn tc), (3, int IntKind.i64 i)]) h K
def L_ref03_Check_1 (t : Option Addr) (tn : Nat) (tc : Nat) (i : Int) (h : Heap) (K : Value → Heap → Prop) : Prop :=
 LoopAt Tryz.prog Tryz.f38 38 (loopK Tryz.f38 1) (sp 98 [(0, slice t tn tc), (4, int IntKind.i64 i)]) h K
def L_ref03_Check_2 (t : Option Addr) (tn : Nat) (tc : Nat) (i : Int) (k' : Int) (h : Heap) (K : Value → Heap → Prop) : Prop :=
 LoopAt Tryz.prog Tryz.f38 38 (loopK Tryz.f38 2) (sp 98 [(0, slice t tn tc), (4, int IntKind.i64 i), (5, int IntKind.i64 k')]) h K
def L_ref03_Check_3 (t : Option Addr) (tn : Nat) (tc : Nat) (i : Int) (h : Heap) (K : Value → Heap → Prop) : Prop :=
 LoopAt Tryz.prog Tryz.f38 38 (loopK Tryz.f38 3) (sp 98 [(0, slice t tn tc), (6, int IntKind.i64 i)]) h K
def L_ref03_Check_0T (t : Option Addr) (tn : Nat) (tc : Nat) (i : Int) (h : Heap) (K : Value → Heap → Prop) : Prop :=
 Br (decide (i < (↑tn : Int)))
 (0 ≤ i ∧
 i < (↑tn : Int) ∧
 withAddr t fun (b o : Nat) =>
 ∃ (s : ByteArray),
 Heap.cell h b (o + Int.toNat i * 3) = some (string s) ∧
 CallA Tryz.prog fn_ref03_capital [string s] h fun (v : Value) (h : Heap) => ∃ (b : Bool), v = Value.bool b ∧ Br (!b) (Ret h K (int IntKind.i64 2)) (L_ref03_Check_0 t tn tc (IntKind.wrap IntKind.i64 (i + 1)) h K))
 (L_ref03_Check_1 t tn tc 0 h K)
theorem L_ref03_Check_0r (t : Option Addr) (tn : Nat) (tc : Nat) (i : Int) (h : Heap) (K : Value → Heap → Prop) (k : L_ref03_Check_0T t tn tc i h K) : L_ref03_Check_0 t tn tc i h K :=
 LoopAt.of_ev (cs := []) Tryz.func38 mixed (fun junk => by kernel_rfl) k
def L_ref03_Check_1T (t : Option Addr) (tn : Nat) (tc : Nat) (i : Int) (h : Heap) (K : Value → Heap → Prop) : Prop :=
 Br (decide (i < (↑tn : Int))) (L_ref03_Check_2 t tn tc i 0 h K)
 ((0 : Int) ≤ 0 ∧
 0 < (↑tn : Int) ∧
 withAddr t fun (b o : Nat) =>
 ∃ (n : Int),
 Heap.cell h b (o + 1) = some (int IntKind.i64 n) ∧
 Br (n != 10000) (Ret h K (int IntKind.i64 1))
 ((0 : Int) ≤ 0 ∧ 0 < (↑tn : Int) ∧ withAddr t fun (b o : Nat) => ∃ (n : Int), Heap.cell h b (o + 2) = some (int IntKind.i64 n) ∧ Br (n != 0) (Ret h K (int IntKind.i64 1)) (L_ref03_Check_3 t tn tc 0 h K)))
theorem L_ref03_Check_1r (t : Option Addr) (tn : Nat) (tc : Nat) (i : Int) (h : Heap) (K : Value → Heap → Prop) (k : L_ref03_Check_1T t tn tc i h K) : L_ref03_Check_1 t tn tc i h K :=
 LoopAt.of_ev (cs := []) Tryz.func38 mixed (fun junk => by kernel_rfl) k
def L_ref03_Check_2T (t : Option Addr) (tn : Nat) (tc : Nat) (i : Int) (k' : Int) (h : Heap) (K : Value → Heap → Prop) : Prop :=
 Br (decide (k' < i))
 (0 ≤ i ∧
 i < (↑tn : Int) ∧
 withAddr t fun (b o : Nat) =>
 ∃ (s : ByteArray),
 Heap.cell h b (o + Int.toNat i * 3) = some (string s) ∧
 0 ≤ k' ∧
 k' < (↑tn : Int) ∧
 withAddr t fun (b o : Nat) =>
 ∃ (s_1 : ByteArray),
 Heap.cell h b (o + Int.toNat k' * 3) = some (string s_1) ∧ Br (ByteArray.toList s == ByteArray.toList s_1) (Ret h K (int IntKind.i64 6)) (L_ref03_Check_2 t tn tc i (IntKind.wrap IntKind.i64 (k' + 1)) h K))
 (L_ref03_Check_1 t tn tc (IntKind.wrap IntKind.i64 (i + 1)) h K)
theorem L_ref03_Check_2r (t : Option Addr) (tn : Nat) (tc : Nat) (i : Int) (k' : Int) (h : Heap) (K : Value → Heap → Prop) (k : L_ref03_Check_2T t tn tc i k' h K) : L_ref03_Check_2 t tn tc i k' h K :=
 LoopAt.of_ev (cs := []) Tryz.func38 mixed (fun junk => by kernel_rfl) k
def L_ref03_Check_3T (t : Option Addr) (tn : Nat) (tc : Nat) (i : Int) (h : Heap) (K : Value → Heap → Prop) : Prop :=
 Br (decide (i < (↑tn : Int)))
 (0 ≤ i ∧
 i < (↑tn : Int) ∧
 withAddr t fun (b o : Nat) =>
 ∃ (n : Int),
 Heap.cell h b (o + Int.toNat i * 3 + 1) = some (int IntKind.i64 n) ∧
 Br (decide (n < 1)) (Ret h K (int IntKind.i64 1))
 (0 ≤ i ∧
 i < (↑tn : Int) ∧
 withAddr t fun (b o : Nat) =>
 ∃ (n : Int),
 Heap.cell h b (o + Int.toNat i * 3 + 1) = some (int IntKind.i64 n) ∧
 Br (decide (n > 100000000)) (Ret h K (int IntKind.i64 1))
 (0 ≤ i ∧
 i < (↑tn : Int) ∧
 withAddr t fun (b o : Nat) =>
 ∃ (n : Int),
 Heap.cell h b (o + Int.toNat i * 3 + 2) = some (int IntKind.i64 n) ∧
 Br (decide (n < 0)) (Ret h K (int IntKind.i64 1))
 (0 ≤ i ∧
 i < (↑tn : Int) ∧
 withAddr t fun (b o : Nat) =>
 ∃ (n : Int),
 Heap.cell h b (o + Int.toNat i * 3 + 2) = some (int IntKind.i64 n) ∧
 Br (decide (n > 10000)) (Ret h K (int IntKind.i64 1)) (L_ref03_Check_3 t tn tc (IntKind.wrap IntKind.i64 (i + 1)) h K)))))
 (Ret h K (int IntKind.i64 0))
theorem L_ref03_Check_3r (t : Option Addr) (tn : Nat) (tc : Nat) (i : Int) (h : Heap) (K : Value → Heap → Prop) (k : L_ref03_Check_3T t tn tc i h K) : L_ref03_Check_3 t tn tc i h K :=
 LoopAt.of_ev (cs := []) Tryz.func38 mixed (fun junk => by kernel_rfl) k
def F_ref03_CheckT (t : Option Addr) (tn : Nat) (tc : Nat) (h : Heap) (K : Value → Heap → Prop) : Prop :=
 Br (decide ((↑tn : Int) < 1)) (Ret h K (int IntKind.i64 4)) (Br (decide ((↑tn : Int) > 8)) (Ret h K (int IntKind.i64 4)) (L_ref03_Check_0 t tn tc 0 h K))
theorem F_ref03_Check (t : Option Addr) (tn : Nat) (tc : Nat) (h : Heap) (K : Value → Heap → Prop) (k : F_ref03_CheckT t tn tc h K) : CallA Tryz.prog fn_ref03_Check [slice t tn tc] h K :=
 CallA.of_ev (cs := []) Tryz.func38 (by kernel_rfl) (fun _ _ => Tryz.call38 _ _) mixed (by kernel_rfl) (by kernel_rfl) k
def F_table_WithRateT (t : Option Addr) (tn : Nat) (tc : Nat) (cur : Int) (rate : Int) (h : Heap) (K : Value → Heap → Prop) : Prop :=
 CallA Tryz.prog fn_table_has [slice t tn tc, int IntKind.i64 cur] h fun (v : Value) (h : Heap) =>
 ∃ (b : Bool),
 v = Value.bool b ∧
 Br (!b) (Ret h K (tuple #[slice none 0 0, int IntKind.i64 1]))
 (0 ≤ cur ∧
 cur < (↑tn : Int) ∧
 withAddr t fun (b o : Nat) =>
 ∃ (s : ByteArray),
 Heap.cell h b (o + Int.toNat cur * 3) = some (string s) ∧
 0 ≤ cur ∧
 cur < (↑tn : Int) ∧
 withAddr t fun (b o : Nat) =>
 ∃ (n : Int),
 Heap.cell h b (o + Int.toNat cur * 3 + 2) = some (int IntKind.i64 n) ∧
 CallA Tryz.prog fn_table_with [slice t tn tc, int IntKind.i64 cur, agg #[string s, int IntKind.i64 rate, int IntKind.i64 n]] h fun (v : Value) (h : Heap) =>
 ∃ (a : Option Addr), ∃ (n : Nat), ∃ (m : Nat), ∃ (n_1 : Int), v = tuple #[slice a n m, int IntKind.i64 n_1] ∧ Ret h K (tuple #[slice a n m, int IntKind.i64 n_1]))
theorem F_table_WithRate (t : Option Addr) (tn : Nat) (tc : Nat) (cur : Int) (rate : Int) (h : Heap) (K : Value → Heap → Prop) (k : F_table_WithRateT t tn tc cur rate h K) : CallA Tryz.prog fn_table_WithRate [slice t tn tc, int IntKind.i64 cur, int IntKind.i64 rate] h K :=
 CallA.of_ev (cs := []) Tryz.func99 (by kernel_rfl) (fun _ _ => Tryz.call99 _ _) mixed (by kernel_rfl) (by kernel_rfl) k
def F_ref03_WithT (t : Option Addr) (tn : Nat) (tc : Nat) (cur : Int) (rate : Int) (cut : Int) (h : Heap) (K : Value → Heap → Prop) : Prop :=
 Br (decide (cur < 0)) (Ret h K (tuple #[slice none 0 0, int IntKind.i64 1]))
 (Br (decide (cur ≥ (↑tn : Int))) (Ret h K (tuple #[slice none 0 0, int IntKind.i64 1]))
 (newB h [] 60 fun (r : Nat) (h : Heap) =>
 AppA [string { data := #[] }, int IntKind.i64 0, int IntKind.i64 0] 60 h (some { block := r, off := 0 }) 0 0 tn t fun (ap : Option Addr) (cp : Nat) (h : Heap) =>
 0 ≤ cur ∧
 cur < (↑(0 + tn) : Int) ∧
 withAddr ap fun (b o : Nat) =>
 Heap.canSt h b (o + Int.toNat cur * 3 + 1) 1 ∧
 0 ≤ cur ∧
 cur < (↑(0 + tn) : Int) ∧
 withAddr ap fun (b_1 o_1 : Nat) =>
 Heap.canSt (Heap.setN h b (o + Int.toNat cur * 3 + 1) [int IntKind.i64 rate]) b_1 (o_1 + Int.toNat cur * 3 + 2) 1 ∧
 CallA Tryz.prog fn_ref03_Check [slice ap (0 + tn) cp] (Heap.setN (Heap.setN h b (o + Int.toNat cur * 3 + 1) [int IntKind.i64 rate]) b_1 (o_1 + Int.toNat cur * 3 + 2) [int IntKind.i64 cut])
 fun (v : Value) (h : Heap) =>
 ∃ (n : Int), v = int IntKind.i64 n ∧ Br (n != 0) (Ret h K (tuple #[slice none 0 0, int IntKind.i64 1])) (Ret h K (tuple #[slice ap (0 + tn) cp, int IntKind.i64 0]))))
theorem F_ref03_With (t : Option Addr) (tn : Nat) (tc : Nat) (cur : Int) (rate : Int) (cut : Int) (h : Heap) (K : Value → Heap → Prop) (k : F_ref03_WithT t tn tc cur rate cut h K) : CallA Tryz.prog fn_ref03_With [slice t tn tc, int IntKind.i64 cur, int IntKind.i64 rate, int IntKind.i64 cut] h K :=
 CallA.of_ev (cs := []) Tryz.func50 (by kernel_rfl) (fun _ _ => Tryz.call50 _ _) mixed (by kernel_rfl) (by kernel_rfl) k
def F_table_WithCutT (t : Option Addr) (tn : Nat) (tc : Nat) (cur : Int) (cut : Int) (h : Heap) (K : Value → Heap → Prop) : Prop :=
 CallA Tryz.prog fn_table_has [slice t tn tc, int IntKind.i64 cur] h fun (v : Value) (h : Heap) =>
 ∃ (b : Bool),
 v = Value.bool b ∧
 Br (!b) (Ret h K (tuple #[slice none 0 0, int IntKind.i64 1]))
 (0 ≤ cur ∧
 cur < (↑tn : Int) ∧
 withAddr t fun (b o : Nat) =>
 ∃ (s : ByteArray),
 Heap.cell h b (o + Int.toNat cur * 3) = some (string s) ∧
 0 ≤ cur ∧
 cur < (↑tn : Int) ∧
 withAddr t fun (b o : Nat) =>
 ∃ (n : Int),
 Heap.cell h b (o + Int.toNat cur * 3 + 1) = some (int IntKind.i64 n) ∧
 CallA Tryz.prog fn_table_with [slice t tn tc, int IntKind.i64 cur, agg #[string s, int IntKind.i64 n, int IntKind.i64 cut]] h fun (v : Value) (h : Heap) =>
 ∃ (a : Option Addr), ∃ (n : Nat), ∃ (m : Nat), ∃ (n_1 : Int), v = tuple #[slice a n m, int IntKind.i64 n_1] ∧ Ret h K (tuple #[slice a n m, int IntKind.i64 n_1]))
theorem F_table_WithCut (t : Option Addr) (tn : Nat) (tc : Nat) (cur : Int) (cut : Int) (h : Heap) (K : Value → Heap → Prop) (k : F_table_WithCutT t tn tc cur cut h K) : CallA Tryz.prog fn_table_WithCut [slice t tn tc, int IntKind.i64 cur, int IntKind.i64 cut] h K :=
 CallA.of_ev (cs := []) Tryz.func104 (by kernel_rfl) (fun _ _ => Tryz.call104 _ _) mixed (by kernel_rfl) (by kernel_rfl) k
def L_ref03_Same_0 (a : Option Addr) (an : Nat) (ac : Nat) (b : Option Addr) (bn : Nat) (bc : Nat) (i : Int) (h : Heap) (K : Value → Heap → Prop) : Prop :=
 LoopAt Tryz.prog Tryz.f22 22 (loopK Tryz.f22 0) (sp 26 [(0, slice a an ac), (1, slice b bn bc), (5, int IntKind.i64 i)]) h K
def L_ref03_Same_0T (a : Option Addr) (an : Nat) (ac : Nat) (b : Option Addr) (bn : Nat) (bc : Nat) (i : Int) (h : Heap) (K : Value → Heap → Prop) : Prop :=
 Br (decide (i < (↑an : Int)))
 (0 ≤ i ∧
 i < (↑an : Int) ∧
 withAddr a fun (b_1 o : Nat) =>
 ∃ (s : ByteArray),
 Heap.cell h b_1 (o + Int.toNat i * 3) = some (string s) ∧
 ∃ (n : Int),
 Heap.cell h b_1 (o + Int.toNat i * 3 + 1) = some (int IntKind.i64 n) ∧
 ∃ (n_1 : Int),
 Heap.cell h b_1 (o + Int.toNat i * 3 + 2) = some (int IntKind.i64 n_1) ∧
 0 ≤ i ∧
 i < (↑bn : Int) ∧
 withAddr b fun (b_2 o : Nat) =>
 ∃ (s_1 : ByteArray),
 Heap.cell h b_2 (o + Int.toNat i * 3) = some (string s_1) ∧
 ∃ (n_2 : Int),
 Heap.cell h b_2 (o + Int.toNat i * 3 + 1) = some (int IntKind.i64 n_2) ∧
 ∃ (n_3 : Int),
 Heap.cell h b_2 (o + Int.toNat i * 3 + 2) = some (int IntKind.i64 n_3) ∧
 Br (!(ByteArray.toList s == ByteArray.toList s_1 && (n == n_2 && (n_1 == n_3 && true)))) (Ret h K (Value.bool false)) (L_ref03_Same_0 a an ac b bn bc (IntKind.wrap IntKind.i64 (i + 1)) h K))
 (Ret h K (Value.bool true))
theorem L_ref03_Same_0r (a : Option Addr) (an : Nat) (ac : Nat) (b : Option Addr) (bn : Nat) (bc : Nat) (i : Int) (h : Heap) (K : Value → Heap → Prop) (k : L_ref03_Same_0T a an ac b bn bc i h K) : L_ref03_Same_0 a an ac b bn bc i h K :=
 LoopAt.of_ev (cs := []) Tryz.func22 mixed (fun junk => by kernel_rfl) k
def F_ref03_SameT (a : Option Addr) (an : Nat) (ac : Nat) (b : Option Addr) (bn : Nat) (bc : Nat) (h : Heap) (K : Value → Heap → Prop) : Prop :=
 Br ((↑an : Int) != (↑bn : Int)) (Ret h K (Value.bool false)) (L_ref03_Same_0 a an ac b bn bc 0 h K)
theorem F_ref03_Same (a : Option Addr) (an : Nat) (ac : Nat) (b : Option Addr) (bn : Nat) (bc : Nat) (h : Heap) (K : Value → Heap → Prop) (k : F_ref03_SameT a an ac b bn bc h K) : CallA Tryz.prog fn_ref03_Same [slice a an ac, slice b bn bc] h K :=
 CallA.of_ev (cs := []) Tryz.func22 (by kernel_rfl) (fun _ _ => Tryz.call22 _ _) mixed (by kernel_rfl) (by kernel_rfl) k
def F_table_WorthT (t : Option Addr) (tn : Nat) (tc : Nat) (cur : Int) (amount : Int) (h : Heap) (K : Value → Heap → Prop) : Prop :=
 CallA Tryz.prog fn_table_has [slice t tn tc, int IntKind.i64 cur] h fun (v : Value) (h : Heap) =>
 ∃ (b : Bool),
 v = Value.bool b ∧
 Br (!b) (Ret h K (tuple #[int IntKind.i64 0, int IntKind.i64 1]))
 (0 ≤ cur ∧
 cur < (↑tn : Int) ∧
 withAddr t fun (b o : Nat) =>
 ∃ (n : Int),
 Heap.cell h b (o + Int.toNat cur * 3 + 2) = some (int IntKind.i64 n) ∧
 Br (decide (amount < 0))
 (0 ≤ cur ∧
 cur < (↑tn : Int) ∧
 withAddr t fun (b o : Nat) =>
 ∃ (n : Int),
 Heap.cell h b (o + Int.toNat cur * 3 + 2) = some (int IntKind.i64 n) ∧
 0 ≤ cur ∧
 cur < (↑tn : Int) ∧
 withAddr t fun (b o : Nat) =>
 ∃ (n_1 : Int),
 Heap.cell h b (o + Int.toNat cur * 3 + 1) = some (int IntKind.i64 n_1) ∧
 CallA Tryz.prog 126
 [int IntKind.i64 amount, int IntKind.i64 (IntKind.wrap IntKind.i64 (n_1 * IntKind.wrap IntKind.i64 (10000 + n))), int IntKind.i64 100000000, Value.bool false] h
 fun (v : Value) (h : Heap) => ∃ (n : Int), ∃ (n_2 : Int), v = tuple #[int IntKind.i64 n, int IntKind.i64 n_2] ∧ Ret h K (tuple #[int IntKind.i64 n, int IntKind.i64 n_2]))
 (0 ≤ cur ∧
 cur < (↑tn : Int) ∧
 withAddr t fun (b o : Nat) =>
 ∃ (n_1 : Int),
 Heap.cell h b (o + Int.toNat cur * 3 + 1) = some (int IntKind.i64 n_1) ∧
 CallA Tryz.prog fn_money_MulDiv [int IntKind.i64 amount, int IntKind.i64 (IntKind.wrap IntKind.i64 (n_1 * IntKind.wrap IntKind.i64 (10000 - n))), int IntKind.i64 100000000, Value.bool false] h
 fun (v : Value) (h : Heap) => ∃ (n : Int), ∃ (n_2 : Int), v = tuple #[int IntKind.i64 n, int IntKind.i64 n_2] ∧ Ret h K (tuple #[int IntKind.i64 n, int IntKind.i64 n_2])))
theorem F_table_Worth (t : Option Addr) (tn : Nat) (tc : Nat) (cur : Int) (amount : Int) (h : Heap) (K : Value → Heap → Prop) (k : F_table_WorthT t tn tc cur amount h K) : CallA Tryz.prog fn_table_Worth [slice t tn tc, int IntKind.i64 cur, int IntKind.i64 amount] h K :=
 CallA.of_ev (cs := []) Tryz.func124 (by kernel_rfl) (fun _ _ => Tryz.call124 _ _) mixed (by kernel_rfl) (by kernel_rfl) k
def F_ref03_WorthT (t : Option Addr) (tn : Nat) (tc : Nat) (cur : Int) (amount : Int) (h : Heap) (K : Value → Heap → Prop) : Prop :=
 Br (decide (cur < 0)) (Ret h K (tuple #[int IntKind.i64 0, int IntKind.i64 1]))
 (Br (decide (cur ≥ (↑tn : Int))) (Ret h K (tuple #[int IntKind.i64 0, int IntKind.i64 1]))
 (0 ≤ cur ∧
 cur < (↑tn : Int) ∧
 withAddr t fun (b o : Nat) =>
 ∃ (n : Int),
 Heap.cell h b (o + Int.toNat cur * 3 + 2) = some (int IntKind.i64 n) ∧
 Br (decide (amount < 0))
 (0 ≤ cur ∧
 cur < (↑tn : Int) ∧
 withAddr t fun (b o : Nat) =>
 ∃ (n : Int),
 Heap.cell h b (o + Int.toNat cur * 3 + 2) = some (int IntKind.i64 n) ∧
 0 ≤ cur ∧
 cur < (↑tn : Int) ∧
 withAddr t fun (b o : Nat) =>
 ∃ (n_1 : Int),
 Heap.cell h b (o + Int.toNat cur * 3 + 1) = some (int IntKind.i64 n_1) ∧
 CallA Tryz.prog fn_ref01_Of [int IntKind.i64 amount] h fun (v : Value) (h_1 : Heap) =>
 ∃ (b_1 : Bool),
 ∃ (a : Option Addr),
 ∃ (n_2 : Nat),
 ∃ (m : Nat),
 v = agg #[Value.bool b_1, slice a n_2 m] ∧
 (Heap.le h h_1 ∨ Keeps [b] h h_1) ∧
 CallA Tryz.prog fn_ref01_Of [int IntKind.i64 n_1] h_1 fun (v : Value) (h : Heap) =>
 ∃ (b : Bool),
 ∃ (a_1 : Option Addr),
 ∃ (n_3 : Nat),
 ∃ (m_1 : Nat),
 v = agg #[Value.bool b, slice a_1 n_3 m_1] ∧
 CallA Tryz.prog fn_ref01_Mul [agg #[Value.bool b_1, slice a n_2 m], agg #[Value.bool b, slice a_1 n_3 m_1]] h fun (v : Value) (h : Heap) =>
 ∃ (b : Bool),
 ∃ (a : Option Addr),
 ∃ (n_4 : Nat),
 ∃ (m : Nat),
 v = agg #[Value.bool b, slice a n_4 m] ∧
 CallA Tryz.prog fn_ref01_Of [int IntKind.i64 (IntKind.wrap IntKind.i64 (10000 + n))] h fun (v : Value) (h : Heap) =>
 ∃ (b_2 : Bool),
 ∃ (a_2 : Option Addr),
 ∃ (n : Nat),
 ∃ (m_2 : Nat),
 v = agg #[Value.bool b_2, slice a_2 n m_2] ∧
 CallA Tryz.prog fn_ref01_Mul [agg #[Value.bool b, slice a n_4 m], agg #[Value.bool b_2, slice a_2 n m_2]] h
 fun (v : Value) (h : Heap) =>
 ∃ (b : Bool),
 ∃ (a : Option Addr),
 ∃ (n : Nat),
 ∃ (m : Nat),
 v = agg #[Value.bool b, slice a n m] ∧
 newB h [Value.bool false, slice none 0 0] 126 fun (r : Nat) (h : Heap) =>
 Heap.canSt h r 0 2 ∧
 ∃ (b_3 : Bool),
 Heap.cell (Heap.setN h r 0 [Value.bool b, slice a n m]) r 0 = some (Value.bool b_3) ∧
 ∃ (a_3 : Option Addr),
 ∃ (n_5 : Nat),
 ∃ (m_3 : Nat),
 Heap.cell (Heap.setN h r 0 [Value.bool b, slice a n m]) r 1 = some (slice a_3 n_5 m_3) ∧
 CallA Tryz.prog fn_ref01_Of [int IntKind.i64 100000000] (Heap.setN h r 0 [Value.bool b, slice a n m])
 fun (v : Value) (h_2 : Heap) =>
 ∃ (b_4 : Bool),
 ∃ (a_4 : Option Addr),
 ∃ (n_6 : Nat),
 ∃ (m_4 : Nat),
 v = agg #[Value.bool b_4, slice a_4 n_6 m_4] ∧
 (Heap.le (Heap.setN h r 0 [Value.bool b, slice a n m]) h_2 ∨
 Keeps [r] (Heap.setN h r 0 [Value.bool b, slice a n m]) h_2) ∧
 CallA Tryz.prog 122
 [agg #[Value.bool b_3, slice a_3 n_5 m_3], agg #[Value.bool b_4, slice a_4 n_6 m_4],
 Value.bool false]
 h_2 fun (v : Value) (h : Heap) =>
 ∃ (b : Bool),
 ∃ (a : Option Addr),
 ∃ (n : Nat),
 ∃ (m : Nat),
 v = agg #[Value.bool b, slice a n m] ∧
 CallA Tryz.prog fn_ref01_Fit [agg #[Value.bool b, slice a n m]] h
 fun (v : Value) (h : Heap) =>
 ∃ (n : Int),
 ∃ (n_7 : Int),
 v = tuple #[int IntKind.i64 n, int IntKind.i64 n_7] ∧
 Ret h K (tuple #[int IntKind.i64 n, int IntKind.i64 n_7]))
 (0 ≤ cur ∧
 cur < (↑tn : Int) ∧
 withAddr t fun (b o : Nat) =>
 ∃ (n_1 : Int),
 Heap.cell h b (o + Int.toNat cur * 3 + 1) = some (int IntKind.i64 n_1) ∧
 CallA Tryz.prog fn_ref01_Of [int IntKind.i64 amount] h fun (v : Value) (h_1 : Heap) =>
 ∃ (b_1 : Bool),
 ∃ (a : Option Addr),
 ∃ (n_2 : Nat),
 ∃ (m : Nat),
 v = agg #[Value.bool b_1, slice a n_2 m] ∧
 (Heap.le h h_1 ∨ Keeps [b] h h_1) ∧
 CallA Tryz.prog fn_ref01_Of [int IntKind.i64 n_1] h_1 fun (v : Value) (h : Heap) =>
 ∃ (b : Bool),
 ∃ (a_1 : Option Addr),
 ∃ (n_3 : Nat),
 ∃ (m_1 : Nat),
 v = agg #[Value.bool b, slice a_1 n_3 m_1] ∧
 CallA Tryz.prog fn_ref01_Mul [agg #[Value.bool b_1, slice a n_2 m], agg #[Value.bool b, slice a_1 n_3 m_1]] h fun (v : Value) (h : Heap) =>
 ∃ (b : Bool),
 ∃ (a : Option Addr),
 ∃ (n_4 : Nat),
 ∃ (m : Nat),
 v = agg #[Value.bool b, slice a n_4 m] ∧
 CallA Tryz.prog fn_ref01_Of [int IntKind.i64 (IntKind.wrap IntKind.i64 (10000 - n))] h fun (v : Value) (h : Heap) =>
 ∃ (b_2 : Bool),
 ∃ (a_2 : Option Addr),
 ∃ (n : Nat),
 ∃ (m_2 : Nat),
 v = agg #[Value.bool b_2, slice a_2 n m_2] ∧
 CallA Tryz.prog fn_ref01_Mul [agg #[Value.bool b, slice a n_4 m], agg #[Value.bool b_2, slice a_2 n m_2]] h fun (v : Value) (h : Heap) =>
 ∃ (b : Bool),
 ∃ (a : Option Addr),
 ∃ (n : Nat),
 ∃ (m : Nat),
 v = agg #[Value.bool b, slice a n m] ∧
 newB h [Value.bool false, slice none 0 0] 126 fun (r : Nat) (h : Heap) =>
 Heap.canSt h r 0 2 ∧
 ∃ (b_3 : Bool),
 Heap.cell (Heap.setN h r 0 [Value.bool b, slice a n m]) r 0 = some (Value.bool b_3) ∧
 ∃ (a_3 : Option Addr),
 ∃ (n_5 : Nat),
 ∃ (m_3 : Nat),
 Heap.cell (Heap.setN h r 0 [Value.bool b, slice a n m]) r 1 = some (slice a_3 n_5 m_3) ∧
 CallA Tryz.prog fn_ref01_Of [int IntKind.i64 100000000] (Heap.setN h r 0 [Value.bool b, slice a n m])
 fun (v : Value) (h_2 : Heap) =>
 ∃ (b_4 : Bool),
 ∃ (a_4 : Option Addr),
 ∃ (n_6 : Nat),
 ∃ (m_4 : Nat),
 v = agg #[Value.bool b_4, slice a_4 n_6 m_4] ∧
 (Heap.le (Heap.setN h r 0 [Value.bool b, slice a n m]) h_2 ∨
 Keeps [r] (Heap.setN h r 0 [Value.bool b, slice a n m]) h_2) ∧
 CallA Tryz.prog 122
 [agg #[Value.bool b_3, slice a_3 n_5 m_3], agg #[Value.bool b_4, slice a_4 n_6 m_4],
 Value.bool false]
 h_2 fun (v : Value) (h : Heap) =>
 ∃ (b : Bool),
 ∃ (a : Option Addr),
 ∃ (n : Nat),
 ∃ (m : Nat),
 v = agg #[Value.bool b, slice a n m] ∧
 CallA Tryz.prog fn_ref01_Fit [agg #[Value.bool b, slice a n m]] h
 fun (v : Value) (h : Heap) =>
 ∃ (n : Int),
 ∃ (n_7 : Int),
 v = tuple #[int IntKind.i64 n, int IntKind.i64 n_7] ∧
 Ret h K (tuple #[int IntKind.i64 n, int IntKind.i64 n_7]))))
theorem F_ref03_Worth (t : Option Addr) (tn : Nat) (tc : Nat) (cur : Int) (amount : Int) (h : Heap) (K : Value → Heap → Prop) (k : F_ref03_WorthT t tn tc cur amount h K) : CallA Tryz.prog fn_ref03_Worth [slice t tn tc, int IntKind.i64 cur, int IntKind.i64 amount] h K :=
 CallA.of_ev (cs := []) Tryz.func106 (by kernel_rfl) (fun _ _ => Tryz.call106 _ _) mixed (by kernel_rfl) (by kernel_rfl) k
def F_table_PlainT (t : Option Addr) (tn : Nat) (tc : Nat) (cur : Int) (amount : Int) (h : Heap) (K : Value → Heap → Prop) : Prop :=
 CallA Tryz.prog fn_table_has [slice t tn tc, int IntKind.i64 cur] h fun (v : Value) (h : Heap) =>
 ∃ (b : Bool),
 v = Value.bool b ∧
 Br (!b) (Ret h K (tuple #[int IntKind.i64 0, int IntKind.i64 1]))
 (0 ≤ cur ∧
 cur < (↑tn : Int) ∧
 withAddr t fun (b o : Nat) =>
 ∃ (n : Int),
 Heap.cell h b (o + Int.toNat cur * 3 + 1) = some (int IntKind.i64 n) ∧
 CallA Tryz.prog fn_money_MulDiv [int IntKind.i64 amount, int IntKind.i64 n, int IntKind.i64 10000, Value.bool false] h fun (v : Value) (h : Heap) =>
 ∃ (n : Int), ∃ (n_1 : Int), v = tuple #[int IntKind.i64 n, int IntKind.i64 n_1] ∧ Ret h K (tuple #[int IntKind.i64 n, int IntKind.i64 n_1]))
theorem F_table_Plain (t : Option Addr) (tn : Nat) (tc : Nat) (cur : Int) (amount : Int) (h : Heap) (K : Value → Heap → Prop) (k : F_table_PlainT t tn tc cur amount h K) : CallA Tryz.prog fn_table_Plain [slice t tn tc, int IntKind.i64 cur, int IntKind.i64 amount] h K :=
 CallA.of_ev (cs := []) Tryz.func125 (by kernel_rfl) (fun _ _ => Tryz.call125 _ _) mixed (by kernel_rfl) (by kernel_rfl) k
def F_ref03_PlainT (t : Option Addr) (tn : Nat) (tc : Nat) (cur : Int) (amount : Int) (h : Heap) (K : Value → Heap → Prop) : Prop :=
 Br (decide (cur < 0)) (Ret h K (tuple #[int IntKind.i64 0, int IntKind.i64 1]))
 (Br (decide (cur ≥ (↑tn : Int))) (Ret h K (tuple #[int IntKind.i64 0, int IntKind.i64 1]))
 (0 ≤ cur ∧
 cur < (↑tn : Int) ∧
 withAddr t fun (b o : Nat) =>
 ∃ (n : Int),
 Heap.cell h b (o + Int.toNat cur * 3 + 1) = some (int IntKind.i64 n) ∧
 CallA Tryz.prog fn_ref01_MulDiv [int IntKind.i64 amount, int IntKind.i64 n, int IntKind.i64 10000, Value.bool false] h fun (v : Value) (h : Heap) =>
 ∃ (n : Int), ∃ (n_1 : Int), v = tuple #[int IntKind.i64 n, int IntKind.i64 n_1] ∧ Ret h K (tuple #[int IntKind.i64 n, int IntKind.i64 n_1])))
theorem F_ref03_Plain (t : Option Addr) (tn : Nat) (tc : Nat) (cur : Int) (amount : Int) (h : Heap) (K : Value → Heap → Prop) (k : F_ref03_PlainT t tn tc cur amount h K) : CallA Tryz.prog fn_ref03_Plain [slice t tn tc, int IntKind.i64 cur, int IntKind.i64 amount] h K :=
 CallA.of_ev (cs := []) Tryz.func107 (by kernel_rfl) (fun _ _ => Tryz.call107 _ _) mixed (by kernel_rfl) (by kernel_rfl) k
def L_slices_IndexFunc_api_Currency_api_Currency_0 (s : Option Addr) (sn : Nat) (sc : Nat) (f_0 : Nat) (t7 : Int) (t8 : Int) (h : Heap) (K : Value → Heap → Prop) : Prop :=
 LoopAt Tryz.prog Tryz.f119 119 (loopK Tryz.f119 0) (sp 19 [(0, slice s sn sc), (1, func (Fn.func fn_table_Find_1) #[] #[pointer (some { block := f_0, off := 0 })]), (7, int IntKind.i64 t7), (8, int IntKind.i64 t8)]) h K
def L_slices_IndexFunc_api_Currency_api_Currency_0T (s : Option Addr) (sn : Nat) (sc : Nat) (f_0 : Nat) (t7 : Int) (t8 : Int) (h : Heap) (K : Value → Heap → Prop) : Prop :=
 Br (decide (t8 < t7))
 (0 ≤ t8 ∧
 t8 < (↑sn : Int) ∧
 withAddr s fun (b o : Nat) =>
 ∃ (s_1 : ByteArray),
 Heap.cell h b (o + Int.toNat t8 * 3) = some (string s_1) ∧
 ∃ (n : Int),
 Heap.cell h b (o + Int.toNat t8 * 3 + 1) = some (int IntKind.i64 n) ∧
 ∃ (n_1 : Int),
 Heap.cell h b (o + Int.toNat t8 * 3 + 2) = some (int IntKind.i64 n_1) ∧
 CallA Tryz.prog fn_table_Find_1 [agg #[string s_1, int IntKind.i64 n, int IntKind.i64 n_1], pointer (some { block := f_0, off := 0 })] h fun (v : Value) (h : Heap) =>
 ∃ (b : Bool), v = Value.bool b ∧ Br b (Ret h K (int IntKind.i64 t8)) (L_slices_IndexFunc_api_Currency_api_Currency_0 s sn sc f_0 t7 (IntKind.wrap IntKind.i64 (t8 + 1)) h K))
 (Ret h K (int IntKind.i64 (-1)))
theorem L_slices_IndexFunc_api_Currency_api_Currency_0r (s : Option Addr) (sn : Nat) (sc : Nat) (f_0 : Nat) (t7 : Int) (t8 : Int) (h : Heap) (K : Value → Heap → Prop) (k : L_slices_IndexFunc_api_Currency_api_Currency_0T s sn sc f_0 t7 t8 h K) : L_slices_IndexFunc_api_Currency_api_Currency_0 s sn sc f_0 t7 t8 h K :=
 LoopAt.of_ev (cs := []) Tryz.func119 mixed (fun junk => by kernel_rfl) k
def F_slices_IndexFunc_api_Currency_api_CurrencyT (s : Option Addr) (sn : Nat) (sc : Nat) (fr0 : Nat) (h : Heap) (K : Value → Heap → Prop) : Prop :=
 L_slices_IndexFunc_api_Currency_api_Currency_0 s sn sc fr0 (↑sn : Int) 0 h K
theorem F_slices_IndexFunc_api_Currency_api_Currency (s : Option Addr) (sn : Nat) (sc : Nat) (fr0 : Nat) (h : Heap) (K : Value → Heap → Prop) (k : F_slices_IndexFunc_api_Currency_api_CurrencyT s sn sc fr0 h K) : CallA Tryz.prog fn_slices_IndexFunc_api_Currency_api_Currency [slice s sn sc, func (Fn.func fn_table_Find_1) #[] #[pointer (some { block := fr0, off := 0 })]] h K :=
 CallA.of_ev (cs := []) Tryz.func119 (by kernel_rfl) (fun _ _ => Tryz.call119 _ _) mixed (by kernel_rfl) (by kernel_rfl) k
def F_table_Find_1T (c_0 : ByteArray) (c_1 : Int) (c_2 : Int) (c0 : Nat) (h : Heap) (K : Value → Heap → Prop) : Prop :=
 newB h [string c_0, int IntKind.i64 c_1, int IntKind.i64 c_2] 60 fun (r : Nat) (h : Heap) =>
 ∃ (s : ByteArray), Heap.cell h r 0 = some (string s) ∧ ∃ (s_1 : ByteArray), Heap.cell h c0 0 = some (string s_1) ∧ Ret h K (Value.bool (ByteArray.toList s == ByteArray.toList s_1))
theorem F_table_Find_1 (c_0 : ByteArray) (c_1 : Int) (c_2 : Int) (c0 : Nat) (h : Heap) (K : Value → Heap → Prop) (k : F_table_Find_1T c_0 c_1 c_2 c0 h K) : CallA Tryz.prog fn_table_Find_1 [agg #[string c_0, int IntKind.i64 c_1, int IntKind.i64 c_2], pointer (some { block := c0, off := 0 })] h K :=
 CallA.of_ev (cs := []) Tryz.func120 (by kernel_rfl) (fun _ _ => Tryz.call120 _ _) mixed (by kernel_rfl) (by kernel_rfl) k
def L_table_formed_0 (code : ByteArray) (t6 : Nat) (h : Heap) (K : Value → Heap → Prop) : Prop :=
 LoopAt Tryz.prog Tryz.f101 101 (loopK Tryz.f101 0) (sp 19 [(0, string code), (6, pointer (some { block := t6, off := 0 }))]) h K
def L_table_formed_0T (code : ByteArray) (t6 : Nat) (h : Heap) (K : Value → Heap → Prop) : Prop :=
 ∃ (s : ByteArray),
 ∃ (pos : Nat),
 h t6 = some (Obj.stringIter s pos) ∧
 Br (decide (pos < ByteArray.size s))
 (Br (decide ((↑(Prod.fst (Utf8.decode s pos)) : Int) < 65)) (Ret (Heap.ins h t6 (Obj.stringIter s (pos + Prod.snd (Utf8.decode s pos)))) K (Value.bool false))
 (Br (decide ((↑(Prod.fst (Utf8.decode s pos)) : Int) > 90)) (Ret (Heap.ins h t6 (Obj.stringIter s (pos + Prod.snd (Utf8.decode s pos)))) K (Value.bool false))
 (L_table_formed_0 code t6 (Heap.ins h t6 (Obj.stringIter s (pos + Prod.snd (Utf8.decode s pos)))) K)))
 (Ret h K (Value.bool ((↑(ByteArray.size code) : Int) == 3)))
theorem L_table_formed_0r (code : ByteArray) (t6 : Nat) (h : Heap) (K : Value → Heap → Prop) (k : L_table_formed_0T code t6 h K) : L_table_formed_0 code t6 h K :=
 LoopAt.of_ev (cs := []) Tryz.func101 mixed (fun junk => by kernel_rfl) k
def F_table_formedT (code : ByteArray) (h : Heap) (K : Value → Heap → Prop) : Prop :=
 newI h code fun (r : Nat) (h : Heap) => L_table_formed_0 code r h K
theorem F_table_formed (code : ByteArray) (h : Heap) (K : Value → Heap → Prop) (k : F_table_formedT code h K) : CallA Tryz.prog fn_table_formed [string code] h K :=
 CallA.of_ev (cs := []) Tryz.func101 (by kernel_rfl) (fun _ _ => Tryz.call101 _ _) mixed (by kernel_rfl) (by kernel_rfl) k
def F_table_fitsT (at' : Int) (c_0 : ByteArray) (c_1 : Int) (c_2 : Int) (h : Heap) (K : Value → Heap → Prop) : Prop :=
 newB h [string c_0, int IntKind.i64 c_1, int IntKind.i64 c_2] 60 fun (r : Nat) (h : Heap) =>
 Br (at' == 0) (∃ (n : Int), Heap.cell h r 1 = some (int IntKind.i64 n) ∧ Br (n == 10000) (∃ (n : Int), Heap.cell h r 2 = some (int IntKind.i64 n) ∧ Ret h K (Value.bool (n == 0))) (Ret h K (Value.bool false)))
 (∃ (n : Int),
 Heap.cell h r 1 = some (int IntKind.i64 n) ∧
 Br (decide (n ≥ 1))
 (∃ (n : Int),
 Heap.cell h r 1 = some (int IntKind.i64 n) ∧
 Br (decide (n ≤ 100000000))
 (∃ (n : Int),
 Heap.cell h r 2 = some (int IntKind.i64 n) ∧ Br (decide (n ≥ 0)) (∃ (n : Int), Heap.cell h r 2 = some (int IntKind.i64 n) ∧ Ret h K (Value.bool (decide (n ≤ 10000)))) (Ret h K (Value.bool false)))
 (Ret h K (Value.bool false)))
 (Ret h K (Value.bool false)))
theorem F_table_fits (at' : Int) (c_0 : ByteArray) (c_1 : Int) (c_2 : Int) (h : Heap) (K : Value → Heap → Prop) (k : F_table_fitsT at' c_0 c_1 c_2 h K) : CallA Tryz.prog fn_table_fits [int IntKind.i64 at', agg #[string c_0, int IntKind.i64 c_1, int IntKind.i64 c_2]] h K :=
 CallA.of_ev (cs := []) Tryz.func103 (by kernel_rfl) (fun _ _ => Tryz.call103 _ _) mixed (by kernel_rfl) (by kernel_rfl) k
def F_ref03_capitalT (s : ByteArray) (h : Heap) (K : Value → Heap → Prop) : Prop :=
 Br ((↑(ByteArray.size s) : Int) != 3) (Ret h K (Value.bool false))
 ((0 : Int) ≤ 0 ∧
 ∃ (c : UInt8),
 s[0]? = some c ∧
 Br (decide ((↑(UInt8.toNat c) : Int) ≥ 65))
 ((0 : Int) ≤ 0 ∧
 ∃ (c : UInt8),
 s[0]? = some c ∧
 Br (decide ((↑(UInt8.toNat c) : Int) ≤ 90))
 ((0 : Int) ≤ 1 ∧
 ∃ (c : UInt8),
 s[1]? = some c ∧
 Br (decide ((↑(UInt8.toNat c) : Int) ≥ 65))
 ((0 : Int) ≤ 1 ∧
 ∃ (c : UInt8),
 s[1]? = some c ∧
 Br (decide ((↑(UInt8.toNat c) : Int) ≤ 90))
 ((0 : Int) ≤ 2 ∧
 ∃ (c : UInt8),
 s[2]? = some c ∧
 Br (decide ((↑(UInt8.toNat c) : Int) ≥ 65)) ((0 : Int) ≤ 2 ∧ ∃ (c : UInt8), s[2]? = some c ∧ Ret h K (Value.bool (decide ((↑(UInt8.toNat c) : Int) ≤ 90)))) (Ret h K (Value.bool false)))
 (Ret h K (Value.bool false)))
 (Ret h K (Value.bool false)))
 (Ret h K (Value.bool false)))
 (Ret h K (Value.bool false)))
theorem F_ref03_capital (s : ByteArray) (h : Heap) (K : Value → Heap → Prop) (k : F_ref03_capitalT s h K) : CallA Tryz.prog fn_ref03_capital [string s] h K :=
 CallA.of_ev (cs := []) Tryz.func77 (by kernel_rfl) (fun _ _ => Tryz.call77 _ _) mixed (by kernel_rfl) (by kernel_rfl) k
def F_table_hasT (t : Option Addr) (tn : Nat) (tc : Nat) (cur : Int) (h : Heap) (K : Value → Heap → Prop) : Prop :=
 Br (decide (cur ≥ 0)) (Ret h K (Value.bool (decide (cur < (↑tn : Int))))) (Ret h K (Value.bool false))
theorem F_table_has (t : Option Addr) (tn : Nat) (tc : Nat) (cur : Int) (h : Heap) (K : Value → Heap → Prop) (k : F_table_hasT t tn tc cur h K) : CallA Tryz.prog fn_table_has [slice t tn tc, int IntKind.i64 cur] h K :=
 CallA.of_ev (cs := []) Tryz.func117 (by kernel_rfl) (fun _ _ => Tryz.call117 _ _) mixed (by kernel_rfl) (by kernel_rfl) k
def F_table_withT (t : Option Addr) (tn : Nat) (tc : Nat) (cur : Int) (c_0 : ByteArray) (c_1 : Int) (c_2 : Int) (h : Heap) (K : Value → Heap → Prop) : Prop :=
 newB h [string c_0, int IntKind.i64 c_1, int IntKind.i64 c_2] 60 fun (r : Nat) (h : Heap) =>
 ∃ (s : ByteArray),
 Heap.cell h r 0 = some (string s) ∧
 ∃ (n : Int),
 Heap.cell h r 1 = some (int IntKind.i64 n) ∧
 ∃ (n_1 : Int),
 Heap.cell h r 2 = some (int IntKind.i64 n_1) ∧
 CallA Tryz.prog fn_table_fits [int IntKind.i64 cur, agg #[string s, int IntKind.i64 n, int IntKind.i64 n_1]] h fun (v : Value) (h : Heap) =>
 ∃ (b : Bool),
 v = Value.bool b ∧
 Br (!b) (Ret h K (tuple #[slice none 0 0, int IntKind.i64 1]))
 (CallA Tryz.prog fn_slices_Clone_api_Currency_api_Currency [slice t tn tc] h fun (v : Value) (h : Heap) =>
 ∃ (a : Option Addr),
 ∃ (n : Nat),
 ∃ (m : Nat),
 v = slice a n m ∧
 ∃ (s : ByteArray),
 Heap.cell h r 0 = some (string s) ∧
 ∃ (n_2 : Int),
 Heap.cell h r 1 = some (int IntKind.i64 n_2) ∧
 ∃ (n_3 : Int),
 Heap.cell h r 2 = some (int IntKind.i64 n_3) ∧
 0 ≤ cur ∧
 cur < (↑n : Int) ∧
 withAddr a fun (b o : Nat) =>
 Heap.canSt h b (o + Int.toNat cur * 3) 3 ∧
 Ret (Heap.setN h b (o + Int.toNat cur * 3) [string s, int IntKind.i64 n_2, int IntKind.i64 n_3]) K (tuple #[slice a n m, int IntKind.i64 0]))
theorem F_table_with (t : Option Addr) (tn : Nat) (tc : Nat) (cur : Int) (c_0 : ByteArray) (c_1 : Int) (c_2 : Int) (h : Heap) (K : Value → Heap → Prop) (k : F_table_withT t tn tc cur c_0 c_1 c_2 h K) : CallA Tryz.prog fn_table_with [slice t tn tc, int IntKind.i64 cur, agg #[string c_0, int IntKind.i64 c_1, int IntKind.i64 c_2]] h K :=
 CallA.of_ev (cs := []) Tryz.func118 (by kernel_rfl) (fun _ _ => Tryz.call118 _ _) mixed (by kernel_rfl) (by kernel_rfl) k
def F_slices_Clone_api_Currency_api_CurrencyT (s : Option Addr) (sn : Nat) (sc : Nat) (h : Heap) (K : Value → Heap → Prop) : Prop :=
 Br (Option.isNone s) (Ret h K (slice none 0 0))
 (newB h [] 60 fun (r : Nat) (h : Heap) =>
 AppA [string { data := #[] }, int IntKind.i64 0, int IntKind.i64 0] 60 h (some { block := r, off := 0 }) 0 0 sn s fun (ap : Option Addr) (cp : Nat) (h : Heap) => Ret h K (slice ap (0 + sn) cp))
theorem F_slices_Clone_api_Currency_api_Currency (s : Option Addr) (sn : Nat) (sc : Nat) (h : Heap) (K : Value → Heap → Prop) (k : F_slices_Clone_api_Currency_api_CurrencyT s sn sc h K) : CallA Tryz.prog fn_slices_Clone_api_Currency_api_Currency [slice s sn sc] h K :=
 CallA.of_ev (cs := []) Tryz.func61 (by kernel_rfl) (fun _ _ => Tryz.call61 _ _) mixed (by kernel_rfl) (by kernel_rfl) k
end Go.Proofs.YtghdadniddoboaaGreat

namespace Go.Proofs.YtghdadniddoboaaGreat
open Go Go.Sy Go.Value
set_option linter.unusedVariables false
set_option maxRecDepth 100000
def L_worth_chain_0 (t2 : Nat) (sum : Nat) (t8 : Option Addr) (t8n : Nat) (t8c : Nat) (t9 : Int) (t10 : Int) (h : Heap) (K : Value → Heap → Prop) : Prop :=
 LoopAt Tryz.prog Tryz.f115 115 (loopK Tryz.f115 0) (sp 34 [(2, pointer (some { block := t2, off := 0 })), (3, pointer (some { block := sum, off := 0 })), (8, slice t8 t8n t8c), (9, int IntKind.i64 t9), (10, int IntKind.i64 t10)]) h K
def L_worth_chain_0T (t2 : Nat) (sum : Nat) (t8 : Option Addr) (t8n : Nat) (t8c : Nat) (t9 : Int) (t10 : Int) (h : Heap) (K : Value → Heap → Prop) : Prop :=
 Br (decide (t10 < t9))
 (0 ≤ t10 ∧
 t10 < (↑t8n : Int) ∧
 withAddr t8 fun (b o : Nat) =>
 ∃ (n : Int),
 Heap.cell h b (o + Int.toNat t10 * 2) = some (int IntKind.i64 n) ∧
 ∃ (n_1 : Int),
 Heap.cell h b (o + Int.toNat t10 * 2 + 1) = some (int IntKind.i64 n_1) ∧
 newB h [int IntKind.i64 0, int IntKind.i64 0] 137 fun (r : Nat) (h : Heap) =>
 Heap.canSt h r 0 2 ∧
 ∃ (n_2 : Int),
 Heap.cell (Heap.setN h r 0 [int IntKind.i64 n, int IntKind.i64 n_1]) r 1 = some (int IntKind.i64 n_2) ∧
 Br (n_2 != 0)
 (Heap.canSt (Heap.setN h r 0 [int IntKind.i64 n, int IntKind.i64 n_1]) t2 0 2 ∧
 ∃ (n_3 : Int),
 Heap.cell (Heap.setN (Heap.setN h r 0 [int IntKind.i64 n, int IntKind.i64 n_1]) t2 0 [int IntKind.i64 0, int IntKind.i64 3]) t2 0 = some (int IntKind.i64 n_3) ∧
 ∃ (n_4 : Int),
 Heap.cell (Heap.setN (Heap.setN h r 0 [int IntKind.i64 n, int IntKind.i64 n_1]) t2 0 [int IntKind.i64 0, int IntKind.i64 3]) t2 1 = some (int IntKind.i64 n_4) ∧
 Ret (Heap.setN (Heap.setN h r 0 [int IntKind.i64 n, int IntKind.i64 n_1]) t2 0 [int IntKind.i64 0, int IntKind.i64 3]) K (agg #[int IntKind.i64 n_3, int IntKind.i64 n_4]))
 (∃ (n_3 : Int),
 Heap.cell (Heap.setN h r 0 [int IntKind.i64 n, int IntKind.i64 n_1]) sum 0 = some (int IntKind.i64 n_3) ∧
 ∃ (n_4 : Int),
 Heap.cell (Heap.setN h r 0 [int IntKind.i64 n, int IntKind.i64 n_1]) r 0 = some (int IntKind.i64 n_4) ∧
 CallA Tryz.prog fn_money_Add [int IntKind.i64 n_3, int IntKind.i64 n_4] (Heap.setN h r 0 [int IntKind.i64 n, int IntKind.i64 n_1]) fun (v : Value) (h : Heap) =>
 ∃ (n : Int),
 ∃ (n_5 : Int),
 v = tuple #[int IntKind.i64 n, int IntKind.i64 n_5] ∧
 Br (n_5 != 0)
 (Heap.canSt h t2 0 2 ∧
 ∃ (n : Int),
 Heap.cell (Heap.setN h t2 0 [int IntKind.i64 0, int IntKind.i64 n_5]) t2 0 = some (int IntKind.i64 n) ∧
 ∃ (n_6 : Int),
 Heap.cell (Heap.setN h t2 0 [int IntKind.i64 0, int IntKind.i64 n_5]) t2 1 = some (int IntKind.i64 n_6) ∧
 Ret (Heap.setN h t2 0 [int IntKind.i64 0, int IntKind.i64 n_5]) K (agg #[int IntKind.i64 n, int IntKind.i64 n_6]))
 (Heap.canSt h sum 0 1 ∧ L_worth_chain_0 t2 sum t8 t8n t8c t9 (IntKind.wrap IntKind.i64 (t10 + 1)) (Heap.setN h sum 0 [int IntKind.i64 n]) K)))
 (∃ (n : Int),
 Heap.cell h sum 0 = some (int IntKind.i64 n) ∧
 ∃ (n_1 : Int),
 Heap.cell h sum 1 = some (int IntKind.i64 n_1) ∧
 Heap.canSt h t2 0 2 ∧
 ∃ (n_2 : Int),
 Heap.cell (Heap.setN h t2 0 [int IntKind.i64 n, int IntKind.i64 n_1]) t2 0 = some (int IntKind.i64 n_2) ∧
 ∃ (n_3 : Int),
 Heap.cell (Heap.setN h t2 0 [int IntKind.i64 n, int IntKind.i64 n_1]) t2 1 = some (int IntKind.i64 n_3) ∧
 Ret (Heap.setN h t2 0 [int IntKind.i64 n, int IntKind.i64 n_1]) K (agg #[int IntKind.i64 n_2, int IntKind.i64 n_3]))
theorem L_worth_chain_0r (t2 : Nat) (sum : Nat) (t8 : Option Addr) (t8n : Nat) (t8c : Nat) (t9 : Int) (t10 : Int) (h : Heap) (K : Value → Heap → Prop) (k : L_worth_chain_0T t2 sum t8 t8n t8c t9 t10 h K) : L_worth_chain_0 t2 sum t8 t8n t8c t9 t10 h K :=
 LoopAt.of_ev (cs := []) Tryz.func115 mixed (fun junk => by kernel_rfl) k
def F_worth_chainT (l : Option Addr) (ln : Nat) (lc : Nat) (h : Heap) (K : Value → Heap → Prop) : Prop :=
 newB h [int IntKind.i64 0, int IntKind.i64 0] 137 fun (r : Nat) (h : Heap) => newB h [int IntKind.i64 0, int IntKind.i64 0] 137 fun (r_1 : Nat) (h : Heap) => L_worth_chain_0 r r_1 l ln lc (↑ln : Int) 0 h K
theorem F_worth_chain (l : Option Addr) (ln : Nat) (lc : Nat) (h : Heap) (K : Value → Heap → Prop) (k : F_worth_chainT l ln lc h K) : CallA Tryz.prog fn_worth_chain [slice l ln lc] h K :=
 CallA.of_ev (cs := []) Tryz.func115 (by kernel_rfl) (fun _ _ => Tryz.call115 _ _) mixed (by kernel_rfl) (by kernel_rfl) k
def F_pworth_Worths_hasT (w : Option Addr) (member : Int) (h : Heap) (K : Value → Heap → Prop) : Prop :=
 Br (decide (member ≥ 0)) (withAddr w fun (b o : Nat) => ∃ (a : Option Addr), ∃ (n : Nat), ∃ (m : Nat), Heap.cell h b (o + 2) = some (slice a n m) ∧ Ret h K (Value.bool (decide (member < (↑n : Int)))))
 (Ret h K (Value.bool false))
theorem F_pworth_Worths_has (w : Option Addr) (member : Int) (h : Heap) (K : Value → Heap → Prop) (k : F_pworth_Worths_hasT w member h K) : CallA Tryz.prog fn_pworth_Worths_has [pointer w, int IntKind.i64 member] h K :=
 CallA.of_ev (cs := []) Tryz.func90 (by kernel_rfl) (fun _ _ => Tryz.call90 _ _) mixed (by kernel_rfl) (by kernel_rfl) k
def F_pworth_Worths_TableT (w : Option Addr) (h : Heap) (K : Value → Heap → Prop) : Prop :=
 withAddr w fun (b o : Nat) =>
 ∃ (a : Option Addr),
 ∃ (n : Nat),
 ∃ (m : Nat), Heap.cell h b o = some (slice a n m) ∧ CallA Tryz.prog fn_slices_Clone_api_Currency_api_Currency [slice a n m] h fun (v : Value) (h : Heap) => ∃ (a : Option Addr), ∃ (n : Nat), ∃ (m : Nat), v = slice a n m ∧ Ret h K (slice a n m)
theorem F_pworth_Worths_Table (w : Option Addr) (h : Heap) (K : Value → Heap → Prop) (k : F_pworth_Worths_TableT w h K) : CallA Tryz.prog fn_pworth_Worths_Table [pointer w] h K :=
 CallA.of_ev (cs := []) Tryz.func24 (by kernel_rfl) (fun _ _ => Tryz.call24 _ _) mixed (by kernel_rfl) (by kernel_rfl) k
def F_pworth_Worths_oneT (w : Option Addr) (cur : Int) (balance : Int) (h : Heap) (K : Value → Heap → Prop) : Prop :=
 newB h [int IntKind.i64 0, int IntKind.i64 0] 137 fun (r : Nat) (h : Heap) =>
 newB h [int IntKind.i64 0, int IntKind.i64 0] 137 fun (r_1 : Nat) (h : Heap) =>
 withAddr w fun (b o : Nat) =>
 ∃ (a : Option Addr),
 ∃ (n : Nat),
 ∃ (m : Nat),
 Heap.cell h b o = some (slice a n m) ∧
 CallA Tryz.prog fn_table_Worth [slice a n m, int IntKind.i64 cur, int IntKind.i64 balance] h fun (v : Value) (h : Heap) =>
 ∃ (n : Int),
 ∃ (n_1 : Int),
 v = tuple #[int IntKind.i64 n, int IntKind.i64 n_1] ∧
 Heap.canSt h r 0 2 ∧
 Br (decide (balance < 0))
 (withAddr w fun (b o : Nat) =>
 ∃ (a : Option Addr),
 ∃ (n_2 : Nat),
 ∃ (m : Nat),
 Heap.cell (Heap.setN h r 0 [int IntKind.i64 n, int IntKind.i64 n_1]) b o = some (slice a n_2 m) ∧
 CallA Tryz.prog fn_table_Plain [slice a n_2 m, int IntKind.i64 cur, int IntKind.i64 balance] (Heap.setN h r 0 [int IntKind.i64 n, int IntKind.i64 n_1]) fun (v : Value) (h : Heap) =>
 ∃ (n : Int),
 ∃ (n_3 : Int),
 v = tuple #[int IntKind.i64 n, int IntKind.i64 n_3] ∧
 CallA Tryz.prog fn_money_Sub [int IntKind.i64 0, int IntKind.i64 n] h fun (v : Value) (h : Heap) =>
 ∃ (n : Int),
 ∃ (n_4 : Int),
 v = tuple #[int IntKind.i64 n, int IntKind.i64 n_4] ∧
 Heap.canSt h r_1 0 2 ∧
 ∃ (n_5 : Int),
 Heap.cell (Heap.setN h r_1 0 [int IntKind.i64 n, int IntKind.i64 (if n_4 > n_3 then n_4 else n_3)]) r 0 = some (int IntKind.i64 n_5) ∧
 ∃ (n_6 : Int),
 Heap.cell (Heap.setN h r_1 0 [int IntKind.i64 n, int IntKind.i64 (if n_4 > n_3 then n_4 else n_3)]) r 1 = some (int IntKind.i64 n_6) ∧
 ∃ (n_7 : Int),
 Heap.cell (Heap.setN h r_1 0 [int IntKind.i64 n, int IntKind.i64 (if n_4 > n_3 then n_4 else n_3)]) r_1 0 = some (int IntKind.i64 n_7) ∧
 ∃ (n_8 : Int),
 Heap.cell (Heap.setN h r_1 0 [int IntKind.i64 n, int IntKind.i64 (if n_4 > n_3 then n_4 else n_3)]) r_1 1 = some (int IntKind.i64 n_8) ∧
 Heap.canSt (Heap.setN h r_1 0 [int IntKind.i64 n, int IntKind.i64 (if n_4 > n_3 then n_4 else n_3)]) r 0 2 ∧
 (Heap.le (Heap.setN h r_1 0 [int IntKind.i64 n, int IntKind.i64 (if n_4 > n_3 then n_4 else n_3)])
 (Heap.setN (Heap.setN h r_1 0 [int IntKind.i64 n, int IntKind.i64 (if n_4 > n_3 then n_4 else n_3)]) r 0
 [int IntKind.i64 n_5, int IntKind.i64 n_6]) ∨
 Keeps [r_1] (Heap.setN h r_1 0 [int IntKind.i64 n, int IntKind.i64 (if n_4 > n_3 then n_4 else n_3)])
 (Heap.setN (Heap.setN h r_1 0 [int IntKind.i64 n, int IntKind.i64 (if n_4 > n_3 then n_4 else n_3)]) r 0
 [int IntKind.i64 n_5, int IntKind.i64 n_6])) ∧
 Heap.canSt
 (Heap.setN (Heap.setN h r_1 0 [int IntKind.i64 n, int IntKind.i64 (if n_4 > n_3 then n_4 else n_3)]) r 0
 [int IntKind.i64 n_5, int IntKind.i64 n_6])
 r_1 0 2 ∧
 ∃ (n_9 : Int),
 Heap.cell
 (Heap.setN
 (Heap.setN (Heap.setN h r_1 0 [int IntKind.i64 n, int IntKind.i64 (if n_4 > n_3 then n_4 else n_3)]) r 0
 [int IntKind.i64 n_5, int IntKind.i64 n_6])
 r_1 0 [int IntKind.i64 n_7, int IntKind.i64 n_8])
 r 0 =
 some (int IntKind.i64 n_9) ∧
 ∃ (n_10 : Int),
 Heap.cell
 (Heap.setN
 (Heap.setN (Heap.setN h r_1 0 [int IntKind.i64 n, int IntKind.i64 (if n_4 > n_3 then n_4 else n_3)]) r 0
 [int IntKind.i64 n_5, int IntKind.i64 n_6])
 r_1 0 [int IntKind.i64 n_7, int IntKind.i64 n_8])
 r 1 =
 some (int IntKind.i64 n_10) ∧
 ∃ (n_11 : Int),
 Heap.cell
 (Heap.setN
 (Heap.setN (Heap.setN h r_1 0 [int IntKind.i64 n, int IntKind.i64 (if n_4 > n_3 then n_4 else n_3)]) r 0
 [int IntKind.i64 n_5, int IntKind.i64 n_6])
 r_1 0 [int IntKind.i64 n_7, int IntKind.i64 n_8])
 r_1 0 =
 some (int IntKind.i64 n_11) ∧
 ∃ (n_12 : Int),
 Heap.cell
 (Heap.setN
 (Heap.setN (Heap.setN h r_1 0 [int IntKind.i64 n, int IntKind.i64 (if n_4 > n_3 then n_4 else n_3)]) r 0
 [int IntKind.i64 n_5, int IntKind.i64 n_6])
 r_1 0 [int IntKind.i64 n_7, int IntKind.i64 n_8])
 r_1 1 =
 some (int IntKind.i64 n_12) ∧
 Ret
 (Heap.setN
 (Heap.setN (Heap.setN h r_1 0 [int IntKind.i64 n, int IntKind.i64 (if n_4 > n_3 then n_4 else n_3)]) r 0
 [int IntKind.i64 n_5, int IntKind.i64 n_6])
 r_1 0 [int IntKind.i64 n_7, int IntKind.i64 n_8])
 K (tuple #[agg #[int IntKind.i64 n_9, int IntKind.i64 n_10], agg #[int IntKind.i64 n_11, int IntKind.i64 n_12]]))
 (∃ (n_2 : Int),
 Heap.cell (Heap.setN h r 0 [int IntKind.i64 n, int IntKind.i64 n_1]) r 0 = some (int IntKind.i64 n_2) ∧
 ∃ (n_3 : Int),
 Heap.cell (Heap.setN h r 0 [int IntKind.i64 n, int IntKind.i64 n_1]) r 1 = some (int IntKind.i64 n_3) ∧
 ∃ (n_4 : Int),
 Heap.cell (Heap.setN h r 0 [int IntKind.i64 n, int IntKind.i64 n_1]) r_1 0 = some (int IntKind.i64 n_4) ∧
 ∃ (n_5 : Int),
 Heap.cell (Heap.setN h r 0 [int IntKind.i64 n, int IntKind.i64 n_1]) r_1 1 = some (int IntKind.i64 n_5) ∧
 Heap.canSt (Heap.setN h r 0 [int IntKind.i64 n, int IntKind.i64 n_1]) r 0 2 ∧
 (Heap.le (Heap.setN h r 0 [int IntKind.i64 n, int IntKind.i64 n_1])
 (Heap.setN (Heap.setN h r 0 [int IntKind.i64 n, int IntKind.i64 n_1]) r 0 [int IntKind.i64 n_2, int IntKind.i64 n_3]) ∨
 Keeps [r_1] (Heap.setN h r 0 [int IntKind.i64 n, int IntKind.i64 n_1])
 (Heap.setN (Heap.setN h r 0 [int IntKind.i64 n, int IntKind.i64 n_1]) r 0 [int IntKind.i64 n_2, int IntKind.i64 n_3])) ∧
 Heap.canSt (Heap.setN (Heap.setN h r 0 [int IntKind.i64 n, int IntKind.i64 n_1]) r 0 [int IntKind.i64 n_2, int IntKind.i64 n_3]) r_1 0 2 ∧
 ∃ (n_6 : Int),
 Heap.cell
 (Heap.setN (Heap.setN (Heap.setN h r 0 [int IntKind.i64 n, int IntKind.i64 n_1]) r 0 [int IntKind.i64 n_2, int IntKind.i64 n_3]) r_1 0
 [int IntKind.i64 n_4, int IntKind.i64 n_5])
 r 0 =
 some (int IntKind.i64 n_6) ∧
 ∃ (n_7 : Int),
 Heap.cell
 (Heap.setN (Heap.setN (Heap.setN h r 0 [int IntKind.i64 n, int IntKind.i64 n_1]) r 0 [int IntKind.i64 n_2, int IntKind.i64 n_3]) r_1 0
 [int IntKind.i64 n_4, int IntKind.i64 n_5])
 r 1 =
 some (int IntKind.i64 n_7) ∧
 ∃ (n_8 : Int),
 Heap.cell
 (Heap.setN (Heap.setN (Heap.setN h r 0 [int IntKind.i64 n, int IntKind.i64 n_1]) r 0 [int IntKind.i64 n_2, int IntKind.i64 n_3]) r_1 0
 [int IntKind.i64 n_4, int IntKind.i64 n_5])
 r_1 0 =
 some (int IntKind.i64 n_8) ∧
 ∃ (n_9 : Int),
 Heap.cell
 (Heap.setN (Heap.setN (Heap.setN h r 0 [int IntKind.i64 n, int IntKind.i64 n_1]) r 0 [int IntKind.i64 n_2, int IntKind.i64 n_3]) r_1 0
 [int IntKind.i64 n_4, int IntKind.i64 n_5])
 r_1 1 =
 some (int IntKind.i64 n_9) ∧
 Ret
 (Heap.setN (Heap.setN (Heap.setN h r 0 [int IntKind.i64 n, int IntKind.i64 n_1]) r 0 [int IntKind.i64 n_2, int IntKind.i64 n_3]) r_1 0
 [int IntKind.i64 n_4, int IntKind.i64 n_5])
 K (tuple #[agg #[int IntKind.i64 n_6, int IntKind.i64 n_7], agg #[int IntKind.i64 n_8, int IntKind.i64 n_9]]))
theorem F_pworth_Worths_one (w : Option Addr) (cur : Int) (balance : Int) (h : Heap) (K : Value → Heap → Prop) (k : F_pworth_Worths_oneT w cur balance h K) : CallA Tryz.prog fn_pworth_Worths_one [pointer w, int IntKind.i64 cur, int IntKind.i64 balance] h K :=
 CallA.of_ev (cs := []) Tryz.func114 (by kernel_rfl) (fun _ _ => Tryz.call114 _ _) mixed (by kernel_rfl) (by kernel_rfl) k
def L_pworth_Worths_account_0 (w : Option Addr) (t4 : Nat) (a : Nat) (t12 : Option Addr) (t12n : Nat) (t12c : Nat) (t13 : Int) (t14 : Int) (h : Heap) (K : Value → Heap → Prop) : Prop :=
 LoopAt Tryz.prog Tryz.f93 93 (loopK Tryz.f93 0) (sp 48 [(0, pointer w), (4, pointer (some { block := t4, off := 0 })), (5, pointer (some { block := a, off := 0 })), (12, slice t12 t12n t12c), (13, int IntKind.i64 t13), (14, int IntKind.i64 t14)]) h K
def L_pworth_Worths_account_0T (w : Option Addr) (t4 : Nat) (a : Nat) (t12 : Option Addr) (t12n : Nat) (t12c : Nat) (t13 : Int) (t14 : Int) (h : Heap) (K : Value → Heap → Prop) : Prop :=
 Br (decide (t14 < t13))
 (0 ≤ t14 ∧
 t14 < (↑t12n : Int) ∧
 withAddr t12 fun (b o : Nat) =>
 ∃ (n : Int),
 Heap.cell h b (o + Int.toNat t14) = some (int IntKind.i64 n) ∧
 CallA Tryz.prog fn_pworth_Worths_one [pointer w, int IntKind.i64 t14, int IntKind.i64 n] h fun (v : Value) (h : Heap) =>
 ∃ (n : Int),
 ∃ (n_1 : Int),
 ∃ (n_2 : Int),
 ∃ (n_3 : Int),
 v = tuple #[agg #[int IntKind.i64 n, int IntKind.i64 n_1], agg #[int IntKind.i64 n_2, int IntKind.i64 n_3]] ∧
 newB h [int IntKind.i64 0, int IntKind.i64 0] 137 fun (r : Nat) (h : Heap) =>
 newB h [int IntKind.i64 0, int IntKind.i64 0] 137 fun (r_1 : Nat) (h : Heap) =>
 Heap.canSt h r 0 2 ∧
 Heap.canSt (Heap.setN h r 0 [int IntKind.i64 n, int IntKind.i64 n_1]) r_1 0 2 ∧
 ∃ (a_1 : Option Addr),
 ∃ (n_4 : Nat),
 ∃ (m : Nat),
 Heap.cell (Heap.setN (Heap.setN h r 0 [int IntKind.i64 n, int IntKind.i64 n_1]) r_1 0 [int IntKind.i64 n_2, int IntKind.i64 n_3]) a 1 = some (slice a_1 n_4 m) ∧
 ∃ (n_5 : Int),
 Heap.cell (Heap.setN (Heap.setN h r 0 [int IntKind.i64 n, int IntKind.i64 n_1]) r_1 0 [int IntKind.i64 n_2, int IntKind.i64 n_3]) r 0 = some (int IntKind.i64 n_5) ∧
 ∃ (n_6 : Int),
 Heap.cell (Heap.setN (Heap.setN h r 0 [int IntKind.i64 n, int IntKind.i64 n_1]) r_1 0 [int IntKind.i64 n_2, int IntKind.i64 n_3]) r 1 = some (int IntKind.i64 n_6) ∧
 newB (Heap.setN (Heap.setN h r 0 [int IntKind.i64 n, int IntKind.i64 n_1]) r_1 0 [int IntKind.i64 n_2, int IntKind.i64 n_3]) [int IntKind.i64 n_5, int IntKind.i64 n_6] 137
 fun (r : Nat) (h : Heap) =>
 AppA [int IntKind.i64 0, int IntKind.i64 0] 137 h a_1 n_4 m 1 (some { block := r, off := 0 }) fun (ap : Option Addr) (cp : Nat) (h : Heap) =>
 Heap.canSt h a 1 1 ∧
 ∃ (a_2 : Option Addr),
 ∃ (n : Nat),
 ∃ (m : Nat),
 Heap.cell (Heap.setN h a 1 [slice ap (n_4 + 1) cp]) a 2 = some (slice a_2 n m) ∧
 ∃ (n_7 : Int),
 Heap.cell (Heap.setN h a 1 [slice ap (n_4 + 1) cp]) r_1 0 = some (int IntKind.i64 n_7) ∧
 ∃ (n_8 : Int),
 Heap.cell (Heap.setN h a 1 [slice ap (n_4 + 1) cp]) r_1 1 = some (int IntKind.i64 n_8) ∧
 newB (Heap.setN h a 1 [slice ap (n_4 + 1) cp]) [int IntKind.i64 n_7, int IntKind.i64 n_8] 137 fun (r : Nat) (h : Heap) =>
 AppA [int IntKind.i64 0, int IntKind.i64 0] 137 h a_2 n m 1 (some { block := r, off := 0 }) fun (ap : Option Addr) (cp : Nat) (h : Heap) =>
 Heap.canSt h a 2 1 ∧ L_pworth_Worths_account_0 w t4 a t12 t12n t12c t13 (IntKind.wrap IntKind.i64 (t14 + 1)) (Heap.setN h a 2 [slice ap (n + 1) cp]) K)
 (∃ (a_1 : Option Addr),
 ∃ (n : Nat),
 ∃ (m : Nat),
 Heap.cell h a 1 = some (slice a_1 n m) ∧
 ∃ (a_2 : Option Addr),
 ∃ (n_1 : Nat),
 ∃ (m_1 : Nat),
 Heap.cell h a 2 = some (slice a_2 n_1 m_1) ∧
 CallA Tryz.prog fn_worth_chain [slice a_1 n m] h fun (v : Value) (h_1 : Heap) =>
 ∃ (n : Int),
 ∃ (n_2 : Int),
 v = agg #[int IntKind.i64 n, int IntKind.i64 n_2] ∧
 (Heap.le h h_1 ∨ Keeps [a] h h_1) ∧
 CallA Tryz.prog fn_worth_chain [slice a_2 n_1 m_1] h_1 fun (v : Value) (h : Heap) =>
 ∃ (n_3 : Int),
 ∃ (n_4 : Int),
 v = agg #[int IntKind.i64 n_3, int IntKind.i64 n_4] ∧
 Heap.canSt h a 3 2 ∧
 Heap.canSt (Heap.setN h a 3 [int IntKind.i64 n, int IntKind.i64 n_2]) a 5 2 ∧
 ∃ (a_3 : Option Addr),
 ∃ (n_5 : Nat),
 ∃ (m : Nat),
 Heap.cell (Heap.setN (Heap.setN h a 3 [int IntKind.i64 n, int IntKind.i64 n_2]) a 5 [int IntKind.i64 n_3, int IntKind.i64 n_4]) a 0 = some (slice a_3 n_5 m) ∧
 ∃ (a_4 : Option Addr),
 ∃ (n_6 : Nat),
 ∃ (m_2 : Nat),
 Heap.cell (Heap.setN (Heap.setN h a 3 [int IntKind.i64 n, int IntKind.i64 n_2]) a 5 [int IntKind.i64 n_3, int IntKind.i64 n_4]) a 1 = some (slice a_4 n_6 m_2) ∧
 ∃ (a_5 : Option Addr),
 ∃ (n_7 : Nat),
 ∃ (m_3 : Nat),
 Heap.cell (Heap.setN (Heap.setN h a 3 [int IntKind.i64 n, int IntKind.i64 n_2]) a 5 [int IntKind.i64 n_3, int IntKind.i64 n_4]) a 2 =
 some (slice a_5 n_7 m_3) ∧
 ∃ (n_8 : Int),
 Heap.cell (Heap.setN (Heap.setN h a 3 [int IntKind.i64 n, int IntKind.i64 n_2]) a 5 [int IntKind.i64 n_3, int IntKind.i64 n_4]) a 3 =
 some (int IntKind.i64 n_8) ∧
 ∃ (n_9 : Int),
 Heap.cell (Heap.setN (Heap.setN h a 3 [int IntKind.i64 n, int IntKind.i64 n_2]) a 5 [int IntKind.i64 n_3, int IntKind.i64 n_4]) a 4 =
 some (int IntKind.i64 n_9) ∧
 ∃ (n_10 : Int),
 Heap.cell (Heap.setN (Heap.setN h a 3 [int IntKind.i64 n, int IntKind.i64 n_2]) a 5 [int IntKind.i64 n_3, int IntKind.i64 n_4]) a 5 =
 some (int IntKind.i64 n_10) ∧
 ∃ (n_11 : Int),
 Heap.cell (Heap.setN (Heap.setN h a 3 [int IntKind.i64 n, int IntKind.i64 n_2]) a 5 [int IntKind.i64 n_3, int IntKind.i64 n_4]) a 6 =
 some (int IntKind.i64 n_11) ∧
 Heap.canSt (Heap.setN (Heap.setN h a 3 [int IntKind.i64 n, int IntKind.i64 n_2]) a 5 [int IntKind.i64 n_3, int IntKind.i64 n_4]) t4 0 7 ∧
 ∃ (a_6 : Option Addr),
 ∃ (n_12 : Nat),
 ∃ (m_4 : Nat),
 Heap.cell
 (Heap.setN
 (Heap.setN (Heap.setN h a 3 [int IntKind.i64 n, int IntKind.i64 n_2]) a 5 [int IntKind.i64 n_3, int IntKind.i64 n_4]) t4 0
 [slice a_3 n_5 m, slice a_4 n_6 m_2, slice a_5 n_7 m_3, int IntKind.i64 n_8, int IntKind.i64 n_9, int IntKind.i64 n_10,
 int IntKind.i64 n_11])
 t4 0 =
 some (slice a_6 n_12 m_4) ∧
 ∃ (a_7 : Option Addr),
 ∃ (n_13 : Nat),
 ∃ (m_5 : Nat),
 Heap.cell
 (Heap.setN
 (Heap.setN (Heap.setN h a 3 [int IntKind.i64 n, int IntKind.i64 n_2]) a 5
 [int IntKind.i64 n_3, int IntKind.i64 n_4])
 t4 0
 [slice a_3 n_5 m, slice a_4 n_6 m_2, slice a_5 n_7 m_3, int IntKind.i64 n_8, int IntKind.i64 n_9,
 int IntKind.i64 n_10, int IntKind.i64 n_11])
 t4 1 =
 some (slice a_7 n_13 m_5) ∧
 ∃ (a_8 : Option Addr),
 ∃ (n_14 : Nat),
 ∃ (m_6 : Nat),
 Heap.cell
 (Heap.setN
 (Heap.setN (Heap.setN h a 3 [int IntKind.i64 n, int IntKind.i64 n_2]) a 5
 [int IntKind.i64 n_3, int IntKind.i64 n_4])
 t4 0
 [slice a_3 n_5 m, slice a_4 n_6 m_2, slice a_5 n_7 m_3, int IntKind.i64 n_8, int IntKind.i64 n_9,
 int IntKind.i64 n_10, int IntKind.i64 n_11])
 t4 2 =
 some (slice a_8 n_14 m_6) ∧
 ∃ (n_15 : Int),
 Heap.cell
 (Heap.setN
 (Heap.setN (Heap.setN h a 3 [int IntKind.i64 n, int IntKind.i64 n_2]) a 5
 [int IntKind.i64 n_3, int IntKind.i64 n_4])
 t4 0
 [slice a_3 n_5 m, slice a_4 n_6 m_2, slice a_5 n_7 m_3, int IntKind.i64 n_8, int IntKind.i64 n_9,
 int IntKind.i64 n_10, int IntKind.i64 n_11])
 t4 3 =
 some (int IntKind.i64 n_15) ∧
 ∃ (n_16 : Int),
 Heap.cell
 (Heap.setN
 (Heap.setN (Heap.setN h a 3 [int IntKind.i64 n, int IntKind.i64 n_2]) a 5
 [int IntKind.i64 n_3, int IntKind.i64 n_4])
 t4 0
 [slice a_3 n_5 m, slice a_4 n_6 m_2, slice a_5 n_7 m_3, int IntKind.i64 n_8, int IntKind.i64 n_9,
 int IntKind.i64 n_10, int IntKind.i64 n_11])
 t4 4 =
 some (int IntKind.i64 n_16) ∧
 ∃ (n_17 : Int),
 Heap.cell
 (Heap.setN
 (Heap.setN (Heap.setN h a 3 [int IntKind.i64 n, int IntKind.i64 n_2]) a 5
 [int IntKind.i64 n_3, int IntKind.i64 n_4])
 t4 0
 [slice a_3 n_5 m, slice a_4 n_6 m_2, slice a_5 n_7 m_3, int IntKind.i64 n_8,
 int IntKind.i64 n_9, int IntKind.i64 n_10, int IntKind.i64 n_11])
 t4 5 =
 some (int IntKind.i64 n_17) ∧
 ∃ (n_18 : Int),
 Heap.cell
 (Heap.setN
 (Heap.setN (Heap.setN h a 3 [int IntKind.i64 n, int IntKind.i64 n_2]) a 5
 [int IntKind.i64 n_3, int IntKind.i64 n_4])
 t4 0
 [slice a_3 n_5 m, slice a_4 n_6 m_2, slice a_5 n_7 m_3, int IntKind.i64 n_8,
 int IntKind.i64 n_9, int IntKind.i64 n_10, int IntKind.i64 n_11])
 t4 6 =
 some (int IntKind.i64 n_18) ∧
 Ret
 (Heap.setN
 (Heap.setN (Heap.setN h a 3 [int IntKind.i64 n, int IntKind.i64 n_2]) a 5
 [int IntKind.i64 n_3, int IntKind.i64 n_4])
 t4 0
 [slice a_3 n_5 m, slice a_4 n_6 m_2, slice a_5 n_7 m_3, int IntKind.i64 n_8,
 int IntKind.i64 n_9, int IntKind.i64 n_10, int IntKind.i64 n_11])
 K
 (agg
 #[slice a_6 n_12 m_4, slice a_7 n_13 m_5, slice a_8 n_14 m_6, int IntKind.i64 n_15,
 int IntKind.i64 n_16, int IntKind.i64 n_17, int IntKind.i64 n_18]))
theorem L_pworth_Worths_account_0r (w : Option Addr) (t4 : Nat) (a : Nat) (t12 : Option Addr) (t12n : Nat) (t12c : Nat) (t13 : Int) (t14 : Int) (h : Heap) (K : Value → Heap → Prop) (k : L_pworth_Worths_account_0T w t4 a t12 t12n t12c t13 t14 h K) : L_pworth_Worths_account_0 w t4 a t12 t12n t12c t13 t14 h K :=
 LoopAt.of_ev (cs := []) Tryz.func93 mixed (fun junk => by kernel_rfl) k
def F_pworth_Worths_accountT (w : Option Addr) (balance : Option Addr) (balancen : Nat) (balancec : Nat) (h : Heap) (K : Value → Heap → Prop) : Prop :=
 newB h [slice none 0 0, slice none 0 0, slice none 0 0, int IntKind.i64 0, int IntKind.i64 0, int IntKind.i64 0, int IntKind.i64 0] 139 fun (r : Nat) (h : Heap) =>
 newB h [slice none 0 0, slice none 0 0, slice none 0 0, int IntKind.i64 0, int IntKind.i64 0, int IntKind.i64 0, int IntKind.i64 0] 139 fun (r_1 : Nat) (h : Heap) =>
 Heap.canSt h r_1 0 7 ∧
 L_pworth_Worths_account_0 w r r_1 balance balancen balancec (↑balancen : Int) 0
 (Heap.setN h r_1 0 [slice balance balancen balancec, slice none 0 0, slice none 0 0, int IntKind.i64 0, int IntKind.i64 0, int IntKind.i64 0, int IntKind.i64 0]) K
theorem F_pworth_Worths_account (w : Option Addr) (balance : Option Addr) (balancen : Nat) (balancec : Nat) (h : Heap) (K : Value → Heap → Prop) (k : F_pworth_Worths_accountT w balance balancen balancec h K) : CallA Tryz.prog fn_pworth_Worths_account [pointer w, slice balance balancen balancec] h K :=
 CallA.of_ev (cs := []) Tryz.func93 (by kernel_rfl) (fun _ _ => Tryz.call93 _ _) mixed (by kernel_rfl) (by kernel_rfl) k
end Go.Proofs.YtghdadniddoboaaGreat

namespace Go.Proofs.YtghdadniddoboaaGreat
open Go Go.Sy Go.Value
set_option linter.unusedVariables false
set_option maxRecDepth 100000
def F_ledger_NewT (members : Int) (currencies : Int) (h : Heap) (K : Value → Heap → Prop) : Prop :=
 Br (decide (members < 1)) (Ret h K (tuple #[pointer none, int IntKind.i64 1]))
 (Br (decide (members > 16)) (Ret h K (tuple #[pointer none, int IntKind.i64 1]))
 (Br (decide (currencies < 1)) (Ret h K (tuple #[pointer none, int IntKind.i64 1]))
 (Br (decide (currencies > 8)) (Ret h K (tuple #[pointer none, int IntKind.i64 1]))
 (0 ≤ members ∧
 members ≤ members ∧
 members ≤ 281474976710656 ∧
 64 * members ≤ 281474976710656 ∧
 newB h (repL (Int.toNat members) [int IntKind.i64 0, int IntKind.i64 0, int IntKind.i64 0, int IntKind.i64 0, int IntKind.i64 0, int IntKind.i64 0, int IntKind.i64 0, int IntKind.i64 0]) 69
 fun (r : Nat) (h : Heap) =>
 newB h
 [slice (some { block := r, off := 0 }) (Int.toNat members) (Int.toNat members), int IntKind.i64 0, int IntKind.i64 0, int IntKind.i64 0, int IntKind.i64 0, int IntKind.i64 0, int IntKind.i64 0,
 int IntKind.i64 0, int IntKind.i64 0, int IntKind.i64 currencies]
 71 fun (r : Nat) (h : Heap) => Ret h K (tuple #[pointer (some { block := r, off := 0 }), int IntKind.i64 0])))))
theorem F_ledger_New (members : Int) (currencies : Int) (h : Heap) (K : Value → Heap → Prop) (k : F_ledger_NewT members currencies h K) : CallA Tryz.prog fn_ledger_New [int IntKind.i64 members, int IntKind.i64 currencies] h K :=
 CallA.of_ev (cs := []) Tryz.func6 (by kernel_rfl) (fun _ _ => Tryz.call6 _ _) mixed (by kernel_rfl) (by kernel_rfl) k
def F_pledger_Ledger_hasT (l : Option Addr) (member : Int) (cur : Int) (h : Heap) (K : Value → Heap → Prop) : Prop :=
 Br (decide (member ≥ 0))
 (withAddr l fun (b o : Nat) =>
 ∃ (a : Option Addr),
 ∃ (n : Nat),
 ∃ (m : Nat),
 Heap.cell h b o = some (slice a n m) ∧
 Br (decide (member < (↑n : Int)))
 (Br (decide (cur ≥ 0)) (withAddr l fun (b o : Nat) => ∃ (n : Int), Heap.cell h b (o + 9) = some (int IntKind.i64 n) ∧ Ret h K (Value.bool (decide (cur < n)))) (Ret h K (Value.bool false)))
 (Ret h K (Value.bool false)))
 (Ret h K (Value.bool false))
theorem F_pledger_Ledger_has (l : Option Addr) (member : Int) (cur : Int) (h : Heap) (K : Value → Heap → Prop) (k : F_pledger_Ledger_hasT l member cur h K) : CallA Tryz.prog fn_pledger_Ledger_has [pointer l, int IntKind.i64 member, int IntKind.i64 cur] h K :=
 CallA.of_ev (cs := []) Tryz.func73 (by kernel_rfl) (fun _ _ => Tryz.call73 _ _) mixed (by kernel_rfl) (by kernel_rfl) k
def F_pledger_Ledger_GetT (l : Option Addr) (member : Int) (cur : Int) (h : Heap) (K : Value → Heap → Prop) : Prop :=
 CallA Tryz.prog fn_pledger_Ledger_has [pointer l, int IntKind.i64 member, int IntKind.i64 cur] h fun (v : Value) (h : Heap) =>
 ∃ (b : Bool),
 v = Value.bool b ∧
 Br (!b) (Ret h K (int IntKind.i64 0))
 (withAddr l fun (b o : Nat) =>
 ∃ (a : Option Addr),
 ∃ (n : Nat),
 ∃ (m : Nat),
 Heap.cell h b o = some (slice a n m) ∧
 0 ≤ member ∧
 member < (↑n : Int) ∧
 withAddr a fun (b o : Nat) =>
 Br (decide (0 ≤ cur)) (Br (decide (cur < 8)) (∃ (n : Int), Heap.cell h b (o + Int.toNat member * 8 + Int.toNat cur) = some (int IntKind.i64 n) ∧ Ret h K (int IntKind.i64 n)) False) False)
theorem F_pledger_Ledger_Get (l : Option Addr) (member : Int) (cur : Int) (h : Heap) (K : Value → Heap → Prop) (k : F_pledger_Ledger_GetT l member cur h K) : CallA Tryz.prog fn_pledger_Ledger_Get [pointer l, int IntKind.i64 member, int IntKind.i64 cur] h K :=
 CallA.of_ev (cs := []) Tryz.func30 (by kernel_rfl) (fun _ _ => Tryz.call30 _ _) mixed (by kernel_rfl) (by kernel_rfl) k
def F_pledger_Ledger_NostroT (l : Option Addr) (cur : Int) (h : Heap) (K : Value → Heap → Prop) : Prop :=
 CallA Tryz.prog fn_pledger_Ledger_has [pointer l, int IntKind.i64 0, int IntKind.i64 cur] h fun (v : Value) (h : Heap) =>
 ∃ (b : Bool),
 v = Value.bool b ∧
 Br (!b) (Ret h K (int IntKind.i64 0))
 (withAddr l fun (b o : Nat) => Br (decide (0 ≤ cur)) (Br (decide (cur < 8)) (∃ (n : Int), Heap.cell h b (o + 1 + Int.toNat cur) = some (int IntKind.i64 n) ∧ Ret h K (int IntKind.i64 n)) False) False)
theorem F_pledger_Ledger_Nostro (l : Option Addr) (cur : Int) (h : Heap) (K : Value → Heap → Prop) (k : F_pledger_Ledger_NostroT l cur h K) : CallA Tryz.prog fn_pledger_Ledger_Nostro [pointer l, int IntKind.i64 cur] h K :=
 CallA.of_ev (cs := []) Tryz.func71 (by kernel_rfl) (fun _ _ => Tryz.call71 _ _) mixed (by kernel_rfl) (by kernel_rfl) k
def F_pledger_Ledger_SizeT (l : Option Addr) (h : Heap) (K : Value → Heap → Prop) : Prop :=
 withAddr l fun (b o : Nat) =>
 ∃ (a : Option Addr),
 ∃ (n : Nat),
 ∃ (m : Nat),
 Heap.cell h b o = some (slice a n m) ∧ withAddr l fun (b o : Nat) => ∃ (n_1 : Int), Heap.cell h b (o + 9) = some (int IntKind.i64 n_1) ∧ Ret h K (tuple #[int IntKind.i64 (↑n : Int), int IntKind.i64 n_1])
theorem F_pledger_Ledger_Size (l : Option Addr) (h : Heap) (K : Value → Heap → Prop) (k : F_pledger_Ledger_SizeT l h K) : CallA Tryz.prog fn_pledger_Ledger_Size [pointer l] h K :=
 CallA.of_ev (cs := []) Tryz.func32 (by kernel_rfl) (fun _ _ => Tryz.call32 _ _) mixed (by kernel_rfl) (by kernel_rfl) k
def L_pledger_Ledger_even_0 (batch : Option Addr) (batchn : Nat) (batchc : Nat) (t14 : Int) (t15 : Int) (h : Heap) (K : Value → Heap → Prop) : Prop :=
 LoopAt Tryz.prog Tryz.f96 96 (loopK Tryz.f96 0) (sp 46 [(1, slice batch batchn batchc), (14, int IntKind.i64 t14), (15, int IntKind.i64 t15)]) h K
def L_pledger_Ledger_even_1 (batch : Option Addr) (batchn : Nat) (batchc : Nat) (cur : Int) (of : Option Addr) (ofn : Nat) (ofc : Nat) (t14 : Int) (t15 : Int) (t18 : Option Addr) (t18n : Nat) (t18c : Nat) (t19 : Int) (t20 : Int) (h : Heap) (K : Value → Heap → Prop) : Prop :=
 LoopAt Tryz.prog Tryz.f96 96 (loopK Tryz.f96 1) (sp 46 [(1, slice batch batchn batchc), (5, int IntKind.i64 cur), (6, slice of ofn ofc), (14, int IntKind.i64 t14), (15, int IntKind.i64 t15), (18, slice t18 t18n t18c), (19, int IntKind.i64 t19), (20, int IntKind.i64 t20)]) h K
def L_pledger_Ledger_even_0T (batch : Option Addr) (batchn : Nat) (batchc : Nat) (t14 : Int) (t15 : Int) (h : Heap) (K : Value → Heap → Prop) : Prop :=
 Br (decide (t15 < t14)) (L_pledger_Ledger_even_1 batch batchn batchc t15 none 0 0 t14 t15 batch batchn batchc (↑batchn : Int) 0 h K) (Ret h K (Value.bool true))
theorem L_pledger_Ledger_even_0r (batch : Option Addr) (batchn : Nat) (batchc : Nat) (t14 : Int) (t15 : Int) (h : Heap) (K : Value → Heap → Prop) (k : L_pledger_Ledger_even_0T batch batchn batchc t14 t15 h K) : L_pledger_Ledger_even_0 batch batchn batchc t14 t15 h K :=
 LoopAt.of_ev (cs := []) Tryz.func96 mixed (fun junk => by kernel_rfl) k
def L_pledger_Ledger_even_1T (batch : Option Addr) (batchn : Nat) (batchc : Nat) (cur : Int) (of : Option Addr) (ofn : Nat) (ofc : Nat) (t14 : Int) (t15 : Int) (t18 : Option Addr) (t18n : Nat) (t18c : Nat) (t19 : Int) (t20 : Int) (h : Heap) (K : Value → Heap → Prop) : Prop :=
 Br (decide (t20 < t19))
 (0 ≤ t20 ∧
 t20 < (↑t18n : Int) ∧
 withAddr t18 fun (b o : Nat) =>
 ∃ (n : Int),
 Heap.cell h b (o + Int.toNat t20 * 3) = some (int IntKind.i64 n) ∧
 ∃ (n_1 : Int),
 Heap.cell h b (o + Int.toNat t20 * 3 + 1) = some (int IntKind.i64 n_1) ∧
 ∃ (n_2 : Int),
 Heap.cell h b (o + Int.toNat t20 * 3 + 2) = some (int IntKind.i64 n_2) ∧
 newB h [int IntKind.i64 0, int IntKind.i64 0, int IntKind.i64 0] 65 fun (r : Nat) (h : Heap) =>
 Heap.canSt h r 0 3 ∧
 ∃ (n_3 : Int),
 Heap.cell (Heap.setN h r 0 [int IntKind.i64 n, int IntKind.i64 n_1, int IntKind.i64 n_2]) r 1 = some (int IntKind.i64 n_3) ∧
 Br (n_3 == cur)
 (∃ (n_4 : Int),
 Heap.cell (Heap.setN h r 0 [int IntKind.i64 n, int IntKind.i64 n_1, int IntKind.i64 n_2]) r 2 = some (int IntKind.i64 n_4) ∧
 newB (Heap.setN h r 0 [int IntKind.i64 n, int IntKind.i64 n_1, int IntKind.i64 n_2]) [int IntKind.i64 n_4] 2 fun (r : Nat) (h : Heap) =>
 AppA [int IntKind.i64 0] 2 h of ofn ofc 1 (some { block := r, off := 0 }) fun (ap : Option Addr) (cp : Nat) (h : Heap) =>
 L_pledger_Ledger_even_1 batch batchn batchc cur ap (ofn + 1) cp t14 t15 t18 t18n t18c t19 (IntKind.wrap IntKind.i64 (t20 + 1)) h K)
 (L_pledger_Ledger_even_1 batch batchn batchc cur of ofn ofc t14 t15 t18 t18n t18c t19 (IntKind.wrap IntKind.i64 (t20 + 1)) (Heap.setN h r 0 [int IntKind.i64 n, int IntKind.i64 n_1, int IntKind.i64 n_2]) K))
 (CallA Tryz.prog fn_money_Sum [slice of ofn ofc] h fun (v : Value) (h : Heap) =>
 ∃ (n : Int),
 ∃ (n_1 : Int),
 v = tuple #[int IntKind.i64 n, int IntKind.i64 n_1] ∧
 Br (n != 0) (Ret h K (Value.bool false)) (Br (n_1 != 0) (Ret h K (Value.bool false)) (L_pledger_Ledger_even_0 batch batchn batchc t14 (IntKind.wrap IntKind.i64 (t15 + 1)) h K)))
theorem L_pledger_Ledger_even_1r (batch : Option Addr) (batchn : Nat) (batchc : Nat) (cur : Int) (of : Option Addr) (ofn : Nat) (ofc : Nat) (t14 : Int) (t15 : Int) (t18 : Option Addr) (t18n : Nat) (t18c : Nat) (t19 : Int) (t20 : Int) (h : Heap) (K : Value → Heap → Prop) (k : L_pledger_Ledger_even_1T batch batchn batchc cur of ofn ofc t14 t15 t18 t18n t18c t19 t20 h K) : L_pledger_Ledger_even_1 batch batchn batchc cur of ofn ofc t14 t15 t18 t18n t18c t19 t20 h K :=
 LoopAt.of_ev (cs := []) Tryz.func96 mixed (fun junk => by kernel_rfl) k
def F_pledger_Ledger_evenT (l : Option Addr) (batch : Option Addr) (batchn : Nat) (batchc : Nat) (h : Heap) (K : Value → Heap → Prop) : Prop :=
 withAddr l fun (b o : Nat) => ∃ (n : Int), Heap.cell h b (o + 9) = some (int IntKind.i64 n) ∧ L_pledger_Ledger_even_0 batch batchn batchc n 0 h K
theorem F_pledger_Ledger_even (l : Option Addr) (batch : Option Addr) (batchn : Nat) (batchc : Nat) (h : Heap) (K : Value → Heap → Prop) (k : F_pledger_Ledger_evenT l batch batchn batchc h K) : CallA Tryz.prog fn_pledger_Ledger_even [pointer l, slice batch batchn batchc] h K :=
 CallA.of_ev (cs := []) Tryz.func96 (by kernel_rfl) (fun _ _ => Tryz.call96 _ _) mixed (by kernel_rfl) (by kernel_rfl) k
def L_pledger_Ledger_Post_0 (l : Option Addr) (batch : Option Addr) (batchn : Nat) (batchc : Nat) (t12 : Option Addr) (t12n : Nat) (t12c : Nat) (t13 : Int) (t14 : Int) (h : Heap) (K : Value → Heap → Prop) : Prop :=
 LoopAt Tryz.prog Tryz.f66 66 (loopK Tryz.f66 0) (sp 71 [(0, pointer l), (1, slice batch batchn batchc), (12, slice t12 t12n t12c), (13, int IntKind.i64 t13), (14, int IntKind.i64 t14)]) h K
def L_pledger_Ledger_Post_1 (l : Option Addr) (rows : Option Addr) (rowsn : Nat) (rowsc : Nat) (t35 : Option Addr) (t35n : Nat) (t35c : Nat) (t36 : Int) (t37 : Int) (h : Heap) (K : Value → Heap → Prop) : Prop :=
 LoopAt Tryz.prog Tryz.f66 66 (loopK Tryz.f66 1) (sp 71 [(0, pointer l), (7, slice rows rowsn rowsc), (35, slice t35 t35n t35c), (36, int IntKind.i64 t36), (37, int IntKind.i64 t37)]) h K
def L_pledger_Ledger_Post_0T (l : Option Addr) (batch : Option Addr) (batchn : Nat) (batchc : Nat) (t12 : Option Addr) (t12n : Nat) (t12c : Nat) (t13 : Int) (t14 : Int) (h : Heap) (K : Value → Heap → Prop) : Prop :=
 Br (decide (t14 < t13))
 (0 ≤ t14 ∧
 t14 < (↑t12n : Int) ∧
 withAddr t12 fun (b o : Nat) =>
 ∃ (n : Int),
 Heap.cell h b (o + Int.toNat t14 * 3) = some (int IntKind.i64 n) ∧
 ∃ (n_1 : Int),
 Heap.cell h b (o + Int.toNat t14 * 3 + 1) = some (int IntKind.i64 n_1) ∧
 ∃ (n_2 : Int),
 Heap.cell h b (o + Int.toNat t14 * 3 + 2) = some (int IntKind.i64 n_2) ∧
 newB h [int IntKind.i64 0, int IntKind.i64 0, int IntKind.i64 0] 65 fun (r : Nat) (h : Heap) =>
 Heap.canSt h r 0 3 ∧
 ∃ (n_3 : Int),
 Heap.cell (Heap.setN h r 0 [int IntKind.i64 n, int IntKind.i64 n_1, int IntKind.i64 n_2]) r 0 = some (int IntKind.i64 n_3) ∧
 ∃ (n_4 : Int),
 Heap.cell (Heap.setN h r 0 [int IntKind.i64 n, int IntKind.i64 n_1, int IntKind.i64 n_2]) r 1 = some (int IntKind.i64 n_4) ∧
 CallA Tryz.prog fn_pledger_Ledger_has [pointer l, int IntKind.i64 n_3, int IntKind.i64 n_4] (Heap.setN h r 0 [int IntKind.i64 n, int IntKind.i64 n_1, int IntKind.i64 n_2])
 fun (v : Value) (h : Heap) =>
 ∃ (b : Bool), v = Value.bool b ∧ Br (!b) (Ret h K (int IntKind.i64 1)) (L_pledger_Ledger_Post_0 l batch batchn batchc t12 t12n t12c t13 (IntKind.wrap IntKind.i64 (t14 + 1)) h K))
 (CallA Tryz.prog fn_pledger_Ledger_even [pointer l, slice batch batchn batchc] h fun (v : Value) (h : Heap) =>
 ∃ (b : Bool),
 v = Value.bool b ∧
 Br (!b) (Ret h K (int IntKind.i64 12))
 (withAddr l fun (b o : Nat) =>
 ∃ (a : Option Addr),
 ∃ (n : Nat),
 ∃ (m : Nat),
 Heap.cell h b o = some (slice a n m) ∧
 AppA [int IntKind.i64 0, int IntKind.i64 0, int IntKind.i64 0, int IntKind.i64 0, int IntKind.i64 0, int IntKind.i64 0, int IntKind.i64 0, int IntKind.i64 0] 69 h none 0 0 n a
 fun (ap : Option Addr) (cp : Nat) (h : Heap) => L_pledger_Ledger_Post_1 l ap (0 + n) cp batch batchn batchc (↑batchn : Int) 0 h K))
theorem L_pledger_Ledger_Post_0r (l : Option Addr) (batch : Option Addr) (batchn : Nat) (batchc : Nat) (t12 : Option Addr) (t12n : Nat) (t12c : Nat) (t13 : Int) (t14 : Int) (h : Heap) (K : Value → Heap → Prop) (k : L_pledger_Ledger_Post_0T l batch batchn batchc t12 t12n t12c t13 t14 h K) : L_pledger_Ledger_Post_0 l batch batchn batchc t12 t12n t12c t13 t14 h K :=
 LoopAt.of_ev (cs := []) Tryz.func66 mixed (fun junk => by kernel_rfl) k
def L_pledger_Ledger_Post_1T (l : Option Addr) (rows : Option Addr) (rowsn : Nat) (rowsc : Nat) (t35 : Option Addr) (t35n : Nat) (t35c : Nat) (t36 : Int) (t37 : Int) (h : Heap) (K : Value → Heap → Prop) : Prop :=
 Br (decide (t37 < t36))
 (0 ≤ t37 ∧
 t37 < (↑t35n : Int) ∧
 withAddr t35 fun (b o : Nat) =>
 ∃ (n : Int),
 Heap.cell h b (o + Int.toNat t37 * 3) = some (int IntKind.i64 n) ∧
 ∃ (n_1 : Int),
 Heap.cell h b (o + Int.toNat t37 * 3 + 1) = some (int IntKind.i64 n_1) ∧
 ∃ (n_2 : Int),
 Heap.cell h b (o + Int.toNat t37 * 3 + 2) = some (int IntKind.i64 n_2) ∧
 newB h [int IntKind.i64 0, int IntKind.i64 0, int IntKind.i64 0] 65 fun (r : Nat) (h : Heap) =>
 Heap.canSt h r 0 3 ∧
 ∃ (n_3 : Int),
 Heap.cell (Heap.setN h r 0 [int IntKind.i64 n, int IntKind.i64 n_1, int IntKind.i64 n_2]) r 0 = some (int IntKind.i64 n_3) ∧
 ∃ (n_4 : Int),
 Heap.cell (Heap.setN h r 0 [int IntKind.i64 n, int IntKind.i64 n_1, int IntKind.i64 n_2]) r 1 = some (int IntKind.i64 n_4) ∧
 0 ≤ n_3 ∧
 n_3 < (↑rowsn : Int) ∧
 withAddr rows fun (b o : Nat) =>
 Br (decide (0 ≤ n_4))
 (Br (decide (n_4 < 8))
 (∃ (n_5 : Int),
 Heap.cell (Heap.setN h r 0 [int IntKind.i64 n, int IntKind.i64 n_1, int IntKind.i64 n_2]) b (o + Int.toNat n_3 * 8 + Int.toNat n_4) = some (int IntKind.i64 n_5) ∧
 ∃ (n_6 : Int),
 Heap.cell (Heap.setN h r 0 [int IntKind.i64 n, int IntKind.i64 n_1, int IntKind.i64 n_2]) r 2 = some (int IntKind.i64 n_6) ∧
 CallA Tryz.prog fn_money_Add [int IntKind.i64 n_5, int IntKind.i64 n_6] (Heap.setN h r 0 [int IntKind.i64 n, int IntKind.i64 n_1, int IntKind.i64 n_2])
 fun (v : Value) (h : Heap) =>
 ∃ (n : Int),
 ∃ (n_7 : Int),
 v = tuple #[int IntKind.i64 n, int IntKind.i64 n_7] ∧
 Br (n_7 != 0) (Ret h K (int IntKind.i64 n_7))
 (∃ (n_8 : Int),
 Heap.cell h r 0 = some (int IntKind.i64 n_8) ∧
 ∃ (n_9 : Int),
 Heap.cell h r 1 = some (int IntKind.i64 n_9) ∧
 0 ≤ n_8 ∧
 n_8 < (↑rowsn : Int) ∧
 withAddr rows fun (b o : Nat) =>
 Br (decide (0 ≤ n_9))
 (Br (decide (n_9 < 8))
 (Heap.canSt h b (o + Int.toNat n_8 * 8 + Int.toNat n_9) 1 ∧
 L_pledger_Ledger_Post_1 l rows rowsn rowsc t35 t35n t35c t36 (IntKind.wrap IntKind.i64 (t37 + 1))
 (Heap.setN h b (o + Int.toNat n_8 * 8 + Int.toNat n_9) [int IntKind.i64 n]) K)
 False)
 False))
 False)
 False)
 (withAddr l fun (b o : Nat) => Heap.canSt h b o 1 ∧ Ret (Heap.setN h b o [slice rows rowsn rowsc]) K (int IntKind.i64 0))
theorem L_pledger_Ledger_Post_1r (l : Option Addr) (rows : Option Addr) (rowsn : Nat) (rowsc : Nat) (t35 : Option Addr) (t35n : Nat) (t35c : Nat) (t36 : Int) (t37 : Int) (h : Heap) (K : Value → Heap → Prop) (k : L_pledger_Ledger_Post_1T l rows rowsn rowsc t35 t35n t35c t36 t37 h K) : L_pledger_Ledger_Post_1 l rows rowsn rowsc t35 t35n t35c t36 t37 h K :=
 LoopAt.of_ev (cs := []) Tryz.func66 mixed (fun junk => by kernel_rfl) k
def F_pledger_Ledger_PostT (l : Option Addr) (batch : Option Addr) (batchn : Nat) (batchc : Nat) (h : Heap) (K : Value → Heap → Prop) : Prop :=
 L_pledger_Ledger_Post_0 l batch batchn batchc batch batchn batchc (↑batchn : Int) 0 h K
theorem F_pledger_Ledger_Post (l : Option Addr) (batch : Option Addr) (batchn : Nat) (batchc : Nat) (h : Heap) (K : Value → Heap → Prop) (k : F_pledger_Ledger_PostT l batch batchn batchc h K) : CallA Tryz.prog fn_pledger_Ledger_Post [pointer l, slice batch batchn batchc] h K :=
 CallA.of_ev (cs := []) Tryz.func66 (by kernel_rfl) (fun _ _ => Tryz.call66 _ _) mixed (by kernel_rfl) (by kernel_rfl) k
def F_pledger_Ledger_InT (l : Option Addr) (member : Int) (cur : Int) (amount : Int) (h : Heap) (K : Value → Heap → Prop) : Prop :=
 CallA Tryz.prog fn_pledger_Ledger_has [pointer l, int IntKind.i64 member, int IntKind.i64 cur] h fun (v : Value) (h : Heap) =>
 ∃ (b : Bool),
 v = Value.bool b ∧
 Br (!b) (Ret h K (int IntKind.i64 1))
 (Br (decide (amount < 1)) (Ret h K (int IntKind.i64 1))
 (withAddr l fun (b o : Nat) =>
 ∃ (a : Option Addr),
 ∃ (n : Nat),
 ∃ (m : Nat),
 Heap.cell h b o = some (slice a n m) ∧
 0 ≤ member ∧
 member < (↑n : Int) ∧
 withAddr a fun (b o : Nat) =>
 Br (decide (0 ≤ cur))
 (Br (decide (cur < 8))
 (∃ (n : Int),
 Heap.cell h b (o + Int.toNat member * 8 + Int.toNat cur) = some (int IntKind.i64 n) ∧
 CallA Tryz.prog fn_money_Add [int IntKind.i64 n, int IntKind.i64 amount] h fun (v : Value) (h : Heap) =>
 ∃ (n : Int),
 ∃ (n_1 : Int),
 v = tuple #[int IntKind.i64 n, int IntKind.i64 n_1] ∧
 withAddr l fun (b o : Nat) =>
 Br (decide (0 ≤ cur))
 (Br (decide (cur < 8))
 (∃ (n_2 : Int),
 Heap.cell h b (o + 1 + Int.toNat cur) = some (int IntKind.i64 n_2) ∧
 CallA Tryz.prog fn_money_Add [int IntKind.i64 n_2, int IntKind.i64 amount] h fun (v : Value) (h : Heap) =>
 ∃ (n_3 : Int),
 ∃ (n_4 : Int),
 v = tuple #[int IntKind.i64 n_3, int IntKind.i64 n_4] ∧
 Br (n_1 != 0) (Ret h K (int IntKind.i64 3))
 (Br (n_4 != 0) (Ret h K (int IntKind.i64 3))
 (withAddr l fun (b o : Nat) =>
 ∃ (a : Option Addr),
 ∃ (n_5 : Nat),
 ∃ (m : Nat),
 Heap.cell h b o = some (slice a n_5 m) ∧
 0 ≤ member ∧
 member < (↑n_5 : Int) ∧
 withAddr a fun (b o : Nat) =>
 Br (decide (0 ≤ cur))
 (Br (decide (cur < 8))
 (withAddr l fun (b_1 o_1 : Nat) =>
 Heap.canSt h b (o + Int.toNat member * 8 + Int.toNat cur) 1 ∧
 Br (decide (0 ≤ cur))
 (Br (decide (cur < 8))
 (Heap.canSt (Heap.setN h b (o + Int.toNat member * 8 + Int.toNat cur) [int IntKind.i64 n]) b_1 (o_1 + 1 + Int.toNat cur) 1 ∧
 Ret
 (Heap.setN (Heap.setN h b (o + Int.toNat member * 8 + Int.toNat cur) [int IntKind.i64 n]) b_1 (o_1 + 1 + Int.toNat cur)
 [int IntKind.i64 n_3])
 K (int IntKind.i64 0))
 False)
 False)
 False)
 False)))
 False)
 False)
 False)
 False))
theorem F_pledger_Ledger_In (l : Option Addr) (member : Int) (cur : Int) (amount : Int) (h : Heap) (K : Value → Heap → Prop) (k : F_pledger_Ledger_InT l member cur amount h K) : CallA Tryz.prog fn_pledger_Ledger_In [pointer l, int IntKind.i64 member, int IntKind.i64 cur, int IntKind.i64 amount] h K :=
 CallA.of_ev (cs := []) Tryz.func63 (by kernel_rfl) (fun _ _ => Tryz.call63 _ _) mixed (by kernel_rfl) (by kernel_rfl) k
def F_pledger_Ledger_OutT (l : Option Addr) (member : Int) (cur : Int) (amount : Int) (h : Heap) (K : Value → Heap → Prop) : Prop :=
 CallA Tryz.prog fn_pledger_Ledger_has [pointer l, int IntKind.i64 member, int IntKind.i64 cur] h fun (v : Value) (h : Heap) =>
 ∃ (b : Bool),
 v = Value.bool b ∧
 Br (!b) (Ret h K (int IntKind.i64 1))
 (Br (decide (amount < 1)) (Ret h K (int IntKind.i64 1))
 (withAddr l fun (b o : Nat) =>
 ∃ (a : Option Addr),
 ∃ (n : Nat),
 ∃ (m : Nat),
 Heap.cell h b o = some (slice a n m) ∧
 0 ≤ member ∧
 member < (↑n : Int) ∧
 withAddr a fun (b o : Nat) =>
 Br (decide (0 ≤ cur))
 (Br (decide (cur < 8))
 (∃ (n : Int),
 Heap.cell h b (o + Int.toNat member * 8 + Int.toNat cur) = some (int IntKind.i64 n) ∧
 Br (decide (n < amount)) (Ret h K (int IntKind.i64 10))
 (withAddr l fun (b o : Nat) =>
 Br (decide (0 ≤ cur))
 (Br (decide (cur < 8))
 (∃ (n : Int),
 Heap.cell h b (o + 1 + Int.toNat cur) = some (int IntKind.i64 n) ∧
 Br (decide (n < amount)) (Ret h K (int IntKind.i64 10))
 (withAddr l fun (b o : Nat) =>
 ∃ (a : Option Addr),
 ∃ (n : Nat),
 ∃ (m : Nat),
 Heap.cell h b o = some (slice a n m) ∧
 0 ≤ member ∧
 member < (↑n : Int) ∧
 withAddr a fun (b o : Nat) =>
 Br (decide (0 ≤ cur))
 (Br (decide (cur < 8))
 (∃ (n_1 : Int),
 Heap.cell h b (o + Int.toNat member * 8 + Int.toNat cur) = some (int IntKind.i64 n_1) ∧
 0 ≤ member ∧
 member < (↑n : Int) ∧
 withAddr a fun (b o : Nat) =>
 Br (decide (0 ≤ cur))
 (Br (decide (cur < 8))
 (Heap.canSt h b (o + Int.toNat member * 8 + Int.toNat cur) 1 ∧
 withAddr l fun (b_1 o_1 : Nat) =>
 Br (decide (0 ≤ cur))
 (Br (decide (cur < 8))
 (∃ (n : Int),
 Heap.cell (Heap.setN h b (o + Int.toNat member * 8 + Int.toNat cur) [int IntKind.i64 (IntKind.wrap IntKind.i64 (n_1 - amount))])
 b_1 (o_1 + 1 + Int.toNat cur) =
 some (int IntKind.i64 n) ∧
 withAddr l fun (b_2 o_2 : Nat) =>
 Br (decide (0 ≤ cur))
 (Br (decide (cur < 8))
 (Heap.canSt
 (Heap.setN h b (o + Int.toNat member * 8 + Int.toNat cur)
 [int IntKind.i64 (IntKind.wrap IntKind.i64 (n_1 - amount))])
 b_2 (o_2 + 1 + Int.toNat cur) 1 ∧
 Ret
 (Heap.setN
 (Heap.setN h b (o + Int.toNat member * 8 + Int.toNat cur)
 [int IntKind.i64 (IntKind.wrap IntKind.i64 (n_1 - amount))])
 b_2 (o_2 + 1 + Int.toNat cur) [int IntKind.i64 (IntKind.wrap IntKind.i64 (n - amount))])
 K (int IntKind.i64 0))
 False)
 False)
 False)
 False)
 False)
 False)
 False)
 False))
 False)
 False))
 False)
 False))
theorem F_pledger_Ledger_Out (l : Option Addr) (member : Int) (cur : Int) (amount : Int) (h : Heap) (K : Value → Heap → Prop) (k : F_pledger_Ledger_OutT l member cur amount h K) : CallA Tryz.prog fn_pledger_Ledger_Out [pointer l, int IntKind.i64 member, int IntKind.i64 cur, int IntKind.i64 amount] h K :=
 CallA.of_ev (cs := []) Tryz.func72 (by kernel_rfl) (fun _ _ => Tryz.call72 _ _) mixed (by kernel_rfl) (by kernel_rfl) k
def F_pledger_Ledger_SwapT (l : Option Addr) (member : Int) (get : Int) (give : Int) (got : Int) (given : Int) (h : Heap) (K : Value → Heap → Prop) : Prop :=
 CallA Tryz.prog fn_pledger_Ledger_has [pointer l, int IntKind.i64 member, int IntKind.i64 get] h fun (v : Value) (h : Heap) =>
 ∃ (b : Bool),
 v = Value.bool b ∧
 Br (!b) (Ret h K (int IntKind.i64 1))
 (CallA Tryz.prog fn_pledger_Ledger_has [pointer l, int IntKind.i64 member, int IntKind.i64 give] h fun (v : Value) (h : Heap) =>
 ∃ (b : Bool),
 v = Value.bool b ∧
 Br (!b) (Ret h K (int IntKind.i64 1))
 (Br (get == give) (Ret h K (int IntKind.i64 1))
 (Br (decide (got < 1)) (Ret h K (int IntKind.i64 1))
 (Br (decide (given < 1)) (Ret h K (int IntKind.i64 1))
 (withAddr l fun (b o : Nat) =>
 Br (decide (0 ≤ give))
 (Br (decide (give < 8))
 (∃ (n : Int),
 Heap.cell h b (o + 1 + Int.toNat give) = some (int IntKind.i64 n) ∧
 Br (decide (n < given)) (Ret h K (int IntKind.i64 10))
 (withAddr l fun (b o : Nat) =>
 ∃ (a : Option Addr),
 ∃ (n : Nat),
 ∃ (m : Nat),
 Heap.cell h b o = some (slice a n m) ∧
 0 ≤ member ∧
 member < (↑n : Int) ∧
 withAddr a fun (b o : Nat) =>
 Br (decide (0 ≤ get))
 (Br (decide (get < 8))
 (∃ (n : Int),
 Heap.cell h b (o + Int.toNat member * 8 + Int.toNat get) = some (int IntKind.i64 n) ∧
 CallA Tryz.prog fn_money_Add [int IntKind.i64 n, int IntKind.i64 got] h fun (v : Value) (h : Heap) =>
 ∃ (n : Int),
 ∃ (n_1 : Int),
 v = tuple #[int IntKind.i64 n, int IntKind.i64 n_1] ∧
 withAddr l fun (b o : Nat) =>
 Br (decide (0 ≤ get))
 (Br (decide (get < 8))
 (∃ (n_2 : Int),
 Heap.cell h b (o + 1 + Int.toNat get) = some (int IntKind.i64 n_2) ∧
 CallA Tryz.prog fn_money_Add [int IntKind.i64 n_2, int IntKind.i64 got] h fun (v : Value) (h : Heap) =>
 ∃ (n_3 : Int),
 ∃ (n_4 : Int),
 v = tuple #[int IntKind.i64 n_3, int IntKind.i64 n_4] ∧
 withAddr l fun (b o : Nat) =>
 ∃ (a : Option Addr),
 ∃ (n_5 : Nat),
 ∃ (m : Nat),
 Heap.cell h b o = some (slice a n_5 m) ∧
 0 ≤ member ∧
 member < (↑n_5 : Int) ∧
 withAddr a fun (b o : Nat) =>
 Br (decide (0 ≤ give))
 (Br (decide (give < 8))
 (∃ (n_6 : Int),
 Heap.cell h b (o + Int.toNat member * 8 + Int.toNat give) = some (int IntKind.i64 n_6) ∧
 CallA Tryz.prog fn_money_Sub [int IntKind.i64 n_6, int IntKind.i64 given] h fun (v : Value) (h : Heap) =>
 ∃ (n_7 : Int),
 ∃ (n_8 : Int),
 v = tuple #[int IntKind.i64 n_7, int IntKind.i64 n_8] ∧
 Br (n_1 != 0) (Ret h K (int IntKind.i64 3))
 (Br (n_4 != 0) (Ret h K (int IntKind.i64 3))
 (Br (n_8 != 0) (Ret h K (int IntKind.i64 3))
 (withAddr l fun (b o : Nat) =>
 ∃ (a : Option Addr),
 ∃ (n_9 : Nat),
 ∃ (m : Nat),
 Heap.cell h b o = some (slice a n_9 m) ∧
 withAddr l fun (b o : Nat) =>
 ∃ (a_1 : Option Addr),
 ∃ (n_10 : Nat),
 ∃ (m : Nat),
 Heap.cell h b o = some (slice a_1 n_10 m) ∧
 0 ≤ member ∧
 member < (↑n_9 : Int) ∧
 withAddr a fun (b o : Nat) =>
 Br (decide (0 ≤ get))
 (Br (decide (get < 8))
 (withAddr l fun (b_1 o_1 : Nat) =>
 0 ≤ member ∧
 member < (↑n_10 : Int) ∧
 withAddr a_1 fun (b_2 o_2 : Nat) =>
 Heap.canSt h b (o + Int.toNat member * 8 + Int.toNat get)
 1 ∧
 Br (decide (0 ≤ get))
 (Br (decide (get < 8))
 (Heap.canSt
 (Heap.setN h b
 (o + Int.toNat member * 8 + Int.toNat get)
 [int IntKind.i64 n])
 b_1 (o_1 + 1 + Int.toNat get) 1 ∧
 Br (decide (0 ≤ give))
 (Br (decide (give < 8))
 (Heap.canSt
 (Heap.setN
 (Heap.setN h b
 (o + Int.toNat member * 8 +
 Int.toNat get)
 [int IntKind.i64 n])
 b_1 (o_1 + 1 + Int.toNat get)
 [int IntKind.i64 n_3])
 b_2
 (o_2 + Int.toNat member * 8 +
 Int.toNat give)
 1 ∧
 withAddr l fun (b_3 o_3 : Nat) =>
 Br (decide (0 ≤ give))
 (Br (decide (give < 8))
 (∃ (n_11 : Int),
 Heap.cell
 (Heap.setN
 (Heap.setN
 (Heap.setN h b
 (o +
 Int.toNat member * 8 +
 Int.toNat get)
 [int IntKind.i64 n])
 b_1
 (o_1 + 1 + Int.toNat get)
 [int IntKind.i64 n_3])
 b_2
 (o_2 + Int.toNat member * 8 +
 Int.toNat give)
 [int IntKind.i64 n_7])
 b_3 (o_3 + 1 + Int.toNat give) =
 some (int IntKind.i64 n_11) ∧
 withAddr l fun (b_4 o_4 : Nat) =>
 Br (decide (0 ≤ give))
 (Br (decide (give < 8))
 (Heap.canSt
 (Heap.setN
 (Heap.setN
 (Heap.setN h b
 (o +
 Int.toNat
 member *
 8 +
 Int.toNat get)
 [int IntKind.i64 n])
 b_1
 (o_1 + 1 +
 Int.toNat get)
 [int IntKind.i64 n_3])
 b_2
 (o_2 +
 Int.toNat member *
 8 +
 Int.toNat give)
 [int IntKind.i64 n_7])
 b_4
 (o_4 + 1 + Int.toNat give)
 1 ∧
 Ret
 (Heap.setN
 (Heap.setN
 (Heap.setN
 (Heap.setN h b
 (o +
 Int.toNat
 member *
 8 +
 Int.toNat get)
 [int IntKind.i64
 n])
 b_1
 (o_1 + 1 +
 Int.toNat get)
 [int IntKind.i64
 n_3])
 b_2
 (o_2 +
 Int.toNat member *
 8 +
 Int.toNat give)
 [int IntKind.i64 n_7])
 b_4
 (o_4 + 1 +
 Int.toNat give)
 [int IntKind.i64
 (IntKind.wrap
 IntKind.i64
 (n_11 - given))])
 K (int IntKind.i64 0))
 False)
 False)
 False)
 False)
 False)
 False)
 False)
 False)
 False)
 False))))
 False)
 False)
 False)
 False)
 False)
 False))
 False)
 False)))))
theorem F_pledger_Ledger_Swap (l : Option Addr) (member : Int) (get : Int) (give : Int) (got : Int) (given : Int) (h : Heap) (K : Value → Heap → Prop) (k : F_pledger_Ledger_SwapT l member get give got given h K) : CallA Tryz.prog fn_pledger_Ledger_Swap [pointer l, int IntKind.i64 member, int IntKind.i64 get, int IntKind.i64 give, int IntKind.i64 got, int IntKind.i64 given] h K :=
 CallA.of_ev (cs := []) Tryz.func80 (by kernel_rfl) (fun _ _ => Tryz.call80 _ _) mixed (by kernel_rfl) (by kernel_rfl) k
def L_ledger_lay_0 (s : Option Addr) (n : Int) (i : Int) (h : Heap) (K : Value → Heap → Prop) : Prop :=
 LoopAt Tryz.prog Tryz.f55 55 (loopK Tryz.f55 0) (sp 16 [(0, pointer s), (1, int IntKind.i64 n), (4, int IntKind.i64 i)]) h K
def L_ledger_lay_0T (s : Option Addr) (n : Int) (i : Int) (h : Heap) (K : Value → Heap → Prop) : Prop :=
 Br (decide (i ≥ 0))
 (Br (decide (0 ≤ IntKind.wrap IntKind.i64 (8 * i)))
 (CallA Tryz.prog fn_pstrings_Builder_WriteByte [pointer s, int IntKind.u8 (IntKind.wrap IntKind.u8 (Int.fdiv n (2 ^ min (Int.toNat (IntKind.wrap IntKind.i64 (8 * i))) 64)))] h fun (v : Value) (h : Heap) =>
 v = nilIface ∧ L_ledger_lay_0 s n (IntKind.wrap IntKind.i64 (i - 1)) h K)
 False)
 (Ret h K (tuple #[]))
theorem L_ledger_lay_0r (s : Option Addr) (n : Int) (i : Int) (h : Heap) (K : Value → Heap → Prop) (k : L_ledger_lay_0T s n i h K) : L_ledger_lay_0 s n i h K :=
 LoopAt.of_ev (cs := []) Tryz.func55 mixed (fun junk => by kernel_rfl) k
def F_ledger_layT (s : Option Addr) (n : Int) (h : Heap) (K : Value → Heap → Prop) : Prop :=
 L_ledger_lay_0 s n 7 h K
theorem F_ledger_lay (s : Option Addr) (n : Int) (h : Heap) (K : Value → Heap → Prop) (k : F_ledger_layT s n h K) : CallA Tryz.prog fn_ledger_lay [pointer s, int IntKind.i64 n] h K :=
 CallA.of_ev (cs := []) Tryz.func55 (by kernel_rfl) (fun _ _ => Tryz.call55 _ _) mixed (by kernel_rfl) (by kernel_rfl) k
def L_pledger_Ledger_Text_0 (l : Option Addr) (s : Nat) (t30 : Option Addr) (t30n : Nat) (t30c : Nat) (t31 : Int) (t32 : Int) (h : Heap) (K : Value → Heap → Prop) : Prop :=
 LoopAt Tryz.prog Tryz.f18 18 (loopK Tryz.f18 0) (sp 51 [(0, pointer l), (3, pointer (some { block := s, off := 0 })), (30, slice t30 t30n t30c), (31, int IntKind.i64 t31), (32, int IntKind.i64 t32)]) h K
def L_pledger_Ledger_Text_1 (l : Option Addr) (s : Nat) (t30 : Option Addr) (t30n : Nat) (t30c : Nat) (t31 : Int) (t32 : Int) (t40 : Option Addr) (t40n : Nat) (t40c : Nat) (t41 : Int) (t42 : Int) (h : Heap) (K : Value → Heap → Prop) : Prop :=
 LoopAt Tryz.prog Tryz.f18 18 (loopK Tryz.f18 1) (sp 51 [(0, pointer l), (3, pointer (some { block := s, off := 0 })), (30, slice t30 t30n t30c), (31, int IntKind.i64 t31), (32, int IntKind.i64 t32), (40, slice t40 t40n t40c), (41, int IntKind.i64 t41),
 (42, int IntKind.i64 t42)]) h K
def L_pledger_Ledger_Text_0T (l : Option Addr) (s : Nat) (t30 : Option Addr) (t30n : Nat) (t30c : Nat) (t31 : Int) (t32 : Int) (h : Heap) (K : Value → Heap → Prop) : Prop :=
 Br (decide (t32 < t31))
 (0 ≤ t32 ∧
 t32 < (↑t30n : Int) ∧
 withAddr t30 fun (b o : Nat) =>
 ∃ (n : Int),
 Heap.cell h b (o + Int.toNat t32 * 8) = some (int IntKind.i64 n) ∧
 ∃ (n_1 : Int),
 Heap.cell h b (o + Int.toNat t32 * 8 + 1) = some (int IntKind.i64 n_1) ∧
 ∃ (n_2 : Int),
 Heap.cell h b (o + Int.toNat t32 * 8 + 2) = some (int IntKind.i64 n_2) ∧
 ∃ (n_3 : Int),
 Heap.cell h b (o + Int.toNat t32 * 8 + 3) = some (int IntKind.i64 n_3) ∧
 ∃ (n_4 : Int),
 Heap.cell h b (o + Int.toNat t32 * 8 + 4) = some (int IntKind.i64 n_4) ∧
 ∃ (n_5 : Int),
 Heap.cell h b (o + Int.toNat t32 * 8 + 5) = some (int IntKind.i64 n_5) ∧
 ∃ (n_6 : Int),
 Heap.cell h b (o + Int.toNat t32 * 8 + 6) = some (int IntKind.i64 n_6) ∧
 ∃ (n_7 : Int),
 Heap.cell h b (o + Int.toNat t32 * 8 + 7) = some (int IntKind.i64 n_7) ∧
 newB h [int IntKind.i64 0, int IntKind.i64 0, int IntKind.i64 0, int IntKind.i64 0, int IntKind.i64 0, int IntKind.i64 0, int IntKind.i64 0, int IntKind.i64 0] 69
 fun (r : Nat) (h : Heap) =>
 Heap.canSt h r 0 8 ∧
 withAddr l fun (b o : Nat) =>
 ∃ (n_8 : Int),
 Heap.cell
 (Heap.setN h r 0
 [int IntKind.i64 n, int IntKind.i64 n_1, int IntKind.i64 n_2, int IntKind.i64 n_3, int IntKind.i64 n_4, int IntKind.i64 n_5, int IntKind.i64 n_6,
 int IntKind.i64 n_7])
 b (o + 9) =
 some (int IntKind.i64 n_8) ∧
 0 ≤ n_8 ∧
 n_8 ≤ 8 ∧
 L_pledger_Ledger_Text_1 l s t30 t30n t30c t31 t32 (slAddr (some { block := r, off := 0 }) 0 8 1) (Int.toNat n_8 - 0) 8 (↑(Int.toNat n_8 - 0) : Int) 0
 (Heap.setN h r 0
 [int IntKind.i64 n, int IntKind.i64 n_1, int IntKind.i64 n_2, int IntKind.i64 n_3, int IntKind.i64 n_4, int IntKind.i64 n_5, int IntKind.i64 n_6,
 int IntKind.i64 n_7])
 K)
 (CallA Tryz.prog fn_pstrings_Builder_String [pointer (some { block := s, off := 0 })] h fun (v : Value) (h : Heap) => ∃ (s : ByteArray), v = string s ∧ Ret h K (string s))
theorem L_pledger_Ledger_Text_0r (l : Option Addr) (s : Nat) (t30 : Option Addr) (t30n : Nat) (t30c : Nat) (t31 : Int) (t32 : Int) (h : Heap) (K : Value → Heap → Prop) (k : L_pledger_Ledger_Text_0T l s t30 t30n t30c t31 t32 h K) : L_pledger_Ledger_Text_0 l s t30 t30n t30c t31 t32 h K :=
 LoopAt.of_ev (cs := []) Tryz.func18 mixed (fun junk => by kernel_rfl) k
def L_pledger_Ledger_Text_1T (l : Option Addr) (s : Nat) (t30 : Option Addr) (t30n : Nat) (t30c : Nat) (t31 : Int) (t32 : Int) (t40 : Option Addr) (t40n : Nat) (t40c : Nat) (t41 : Int) (t42 : Int) (h : Heap) (K : Value → Heap → Prop) : Prop :=
 Br (decide (t42 < t41))
 (0 ≤ t42 ∧
 t42 < (↑t40n : Int) ∧
 withAddr t40 fun (b o : Nat) =>
 ∃ (n : Int),
 Heap.cell h b (o + Int.toNat t42) = some (int IntKind.i64 n) ∧
 CallA Tryz.prog fn_ledger_lay [pointer (some { block := s, off := 0 }), int IntKind.i64 n] h fun (v : Value) (h : Heap) =>
 v = tuple #[] ∧ L_pledger_Ledger_Text_1 l s t30 t30n t30c t31 t32 t40 t40n t40c t41 (IntKind.wrap IntKind.i64 (t42 + 1)) h K)
 (L_pledger_Ledger_Text_0 l s t30 t30n t30c t31 (IntKind.wrap IntKind.i64 (t32 + 1)) h K)
theorem L_pledger_Ledger_Text_1r (l : Option Addr) (s : Nat) (t30 : Option Addr) (t30n : Nat) (t30c : Nat) (t31 : Int) (t32 : Int) (t40 : Option Addr) (t40n : Nat) (t40c : Nat) (t41 : Int) (t42 : Int) (h : Heap) (K : Value → Heap → Prop) (k : L_pledger_Ledger_Text_1T l s t30 t30n t30c t31 t32 t40 t40n t40c t41 t42 h K) : L_pledger_Ledger_Text_1 l s t30 t30n t30c t31 t32 t40 t40n t40c t41 t42 h K :=
 LoopAt.of_ev (cs := []) Tryz.func18 mixed (fun junk => by kernel_rfl) k
def F_pledger_Ledger_TextT (l : Option Addr) (h : Heap) (K : Value → Heap → Prop) : Prop :=
 newB h [pointer none, slice none 0 0] 98 fun (r : Nat) (h : Heap) =>
 withAddr l fun (b o : Nat) =>
 ∃ (a : Option Addr),
 ∃ (n : Nat),
 ∃ (m : Nat),
 Heap.cell h b o = some (slice a n m) ∧
 CallA Tryz.prog fn_pstrings_Builder_WriteByte [pointer (some { block := r, off := 0 }), int IntKind.u8 (IntKind.wrap IntKind.u8 (↑n : Int))] h fun (v : Value) (h : Heap) =>
 v = nilIface ∧
 withAddr l fun (b o : Nat) =>
 ∃ (n : Int),
 Heap.cell h b (o + 9) = some (int IntKind.i64 n) ∧
 CallA Tryz.prog fn_pstrings_Builder_WriteByte [pointer (some { block := r, off := 0 }), int IntKind.u8 (IntKind.wrap IntKind.u8 n)] h fun (v : Value) (h : Heap) =>
 v = nilIface ∧
 withAddr l fun (b o : Nat) =>
 ∃ (n : Int),
 Heap.cell h b (o + 1) = some (int IntKind.i64 n) ∧
 ∃ (n_1 : Int),
 Heap.cell h b (o + 1 + 1) = some (int IntKind.i64 n_1) ∧
 ∃ (n_2 : Int),
 Heap.cell h b (o + 1 + 2) = some (int IntKind.i64 n_2) ∧
 ∃ (n_3 : Int),
 Heap.cell h b (o + 1 + 3) = some (int IntKind.i64 n_3) ∧
 ∃ (n_4 : Int),
 Heap.cell h b (o + 1 + 4) = some (int IntKind.i64 n_4) ∧
 ∃ (n_5 : Int),
 Heap.cell h b (o + 1 + 5) = some (int IntKind.i64 n_5) ∧
 ∃ (n_6 : Int),
 Heap.cell h b (o + 1 + 6) = some (int IntKind.i64 n_6) ∧
 ∃ (n_7 : Int),
 Heap.cell h b (o + 1 + 7) = some (int IntKind.i64 n_7) ∧
 withAddr l fun (b o : Nat) =>
 ∃ (a : Option Addr),
 ∃ (n_8 : Nat),
 ∃ (m : Nat),
 Heap.cell h b o = some (slice a n_8 m) ∧
 newB h
 [int IntKind.i64 n, int IntKind.i64 n_1, int IntKind.i64 n_2, int IntKind.i64 n_3, int IntKind.i64 n_4, int IntKind.i64 n_5, int IntKind.i64 n_6,
 int IntKind.i64 n_7]
 69 fun (r_1 : Nat) (h : Heap) =>
 AppA
 [int IntKind.i64 0, int IntKind.i64 0, int IntKind.i64 0, int IntKind.i64 0, int IntKind.i64 0, int IntKind.i64 0, int IntKind.i64 0,
 int IntKind.i64 0]
 69 h (some { block := r_1, off := 0 }) 1 1 n_8 a fun (ap : Option Addr) (cp : Nat) (h : Heap) =>
 L_pledger_Ledger_Text_0 l r ap (1 + n_8) cp (↑(1 + n_8) : Int) 0 h K
theorem F_pledger_Ledger_Text (l : Option Addr) (h : Heap) (K : Value → Heap → Prop) (k : F_pledger_Ledger_TextT l h K) : CallA Tryz.prog fn_pledger_Ledger_Text [pointer l] h K :=
 CallA.of_ev (cs := []) Tryz.func18 (by kernel_rfl) (fun _ _ => Tryz.call18 _ _) mixed (by kernel_rfl) (by kernel_rfl) k
def L_ledger_Read_0 (l : Nat) (take_0 : Nat) (take_1 : Nat) (t60 : Int) (t61 : Int) (h : Heap) (K : Value → Heap → Prop) : Prop :=
 LoopAt Tryz.prog Tryz.f65 65 (loopK Tryz.f65 0) (sp 119 [(4, pointer (some { block := l, off := 0 })), (7, func (Fn.func fn_ledger_Read_1) #[] #[pointer (some { block := take_0, off := 0 }), pointer (some { block := take_1, off := 0 })]), (60, int IntKind.i64 t60),
 (61, int IntKind.i64 t61)]) h K
def L_ledger_Read_1 (l : Nat) (sums : Nat) (t76 : Int) (t77 : Int) (h : Heap) (K : Value → Heap → Prop) : Prop :=
 LoopAt Tryz.prog Tryz.f65 65 (loopK Tryz.f65 1) (sp 119 [(4, pointer (some { block := l, off := 0 })), (9, pointer (some { block := sums, off := 0 })), (76, int IntKind.i64 t76), (77, int IntKind.i64 t77)]) h K
def L_ledger_Read_2 (l : Nat) (sums : Nat) (cur : Int) (of : Option Addr) (ofn : Nat) (ofc : Nat) (t76 : Int) (t77 : Int) (t84 : Int) (t85 : Int) (h : Heap) (K : Value → Heap → Prop) : Prop :=
 LoopAt Tryz.prog Tryz.f65 65 (loopK Tryz.f65 2) (sp 119 [(4, pointer (some { block := l, off := 0 })), (9, pointer (some { block := sums, off := 0 })), (10, int IntKind.i64 cur), (11, slice of ofn ofc), (76, int IntKind.i64 t76), (77, int IntKind.i64 t77),
 (84, int IntKind.i64 t84), (85, int IntKind.i64 t85)]) h K
def L_ledger_Read_0T (l : Nat) (take_0 : Nat) (take_1 : Nat) (t60 : Int) (t61 : Int) (h : Heap) (K : Value → Heap → Prop) : Prop :=
 Br (decide (t61 < t60))
 (∃ (a : Option Addr),
 Heap.cell h l 0 = some (pointer a) ∧
 withAddr a fun (b o : Nat) =>
 ∃ (a : Option Addr),
 ∃ (n : Nat),
 ∃ (m : Nat),
 Heap.cell h b o = some (slice a n m) ∧
 0 ≤ t61 ∧
 t61 < (↑n : Int) ∧
 withAddr a fun (b o : Nat) =>
 CallA Tryz.prog fn_ledger_Read_1 [pointer (some { block := b, off := o + Int.toNat t61 * 8 }), pointer (some { block := take_0, off := 0 }), pointer (some { block := take_1, off := 0 })] h
 fun (v : Value) (h : Heap) => v = tuple #[] ∧ L_ledger_Read_0 l take_0 take_1 t60 (IntKind.wrap IntKind.i64 (t61 + 1)) h K)
 (newB h [int IntKind.i64 0, int IntKind.i64 0, int IntKind.i64 0, int IntKind.i64 0, int IntKind.i64 0, int IntKind.i64 0, int IntKind.i64 0, int IntKind.i64 0] 69 fun (r : Nat) (h : Heap) =>
 ∃ (a : Option Addr), Heap.cell h l 0 = some (pointer a) ∧ withAddr a fun (b o : Nat) => ∃ (n : Int), Heap.cell h b (o + 9) = some (int IntKind.i64 n) ∧ L_ledger_Read_1 l r n 0 h K)
theorem L_ledger_Read_0r (l : Nat) (take_0 : Nat) (take_1 : Nat) (t60 : Int) (t61 : Int) (h : Heap) (K : Value → Heap → Prop) (k : L_ledger_Read_0T l take_0 take_1 t60 t61 h K) : L_ledger_Read_0 l take_0 take_1 t60 t61 h K :=
 LoopAt.of_ev (cs := []) Tryz.func65 mixed (fun junk => by kernel_rfl) k
def L_ledger_Read_1T (l : Nat) (sums : Nat) (t76 : Int) (t77 : Int) (h : Heap) (K : Value → Heap → Prop) : Prop :=
 Br (decide (t77 < t76))
 (∃ (a : Option Addr),
 Heap.cell h l 0 = some (pointer a) ∧ withAddr a fun (b o : Nat) => ∃ (a : Option Addr), ∃ (n : Nat), ∃ (m : Nat), Heap.cell h b o = some (slice a n m) ∧ L_ledger_Read_2 l sums t77 none 0 0 t76 t77 (↑n : Int) 0 h K)
 (∃ (n : Int),
 Heap.cell h sums 0 = some (int IntKind.i64 n) ∧
 ∃ (n_1 : Int),
 Heap.cell h sums 1 = some (int IntKind.i64 n_1) ∧
 ∃ (n_2 : Int),
 Heap.cell h sums 2 = some (int IntKind.i64 n_2) ∧
 ∃ (n_3 : Int),
 Heap.cell h sums 3 = some (int IntKind.i64 n_3) ∧
 ∃ (n_4 : Int),
 Heap.cell h sums 4 = some (int IntKind.i64 n_4) ∧
 ∃ (n_5 : Int),
 Heap.cell h sums 5 = some (int IntKind.i64 n_5) ∧
 ∃ (n_6 : Int),
 Heap.cell h sums 6 = some (int IntKind.i64 n_6) ∧
 ∃ (n_7 : Int),
 Heap.cell h sums 7 = some (int IntKind.i64 n_7) ∧
 ∃ (a : Option Addr),
 Heap.cell h l 0 = some (pointer a) ∧
 withAddr a fun (b o : Nat) =>
 ∃ (n_8 : Int),
 Heap.cell h b (o + 1) = some (int IntKind.i64 n_8) ∧
 ∃ (n_9 : Int),
 Heap.cell h b (o + 1 + 1) = some (int IntKind.i64 n_9) ∧
 ∃ (n_10 : Int),
 Heap.cell h b (o + 1 + 2) = some (int IntKind.i64 n_10) ∧
 ∃ (n_11 : Int),
 Heap.cell h b (o + 1 + 3) = some (int IntKind.i64 n_11) ∧
 ∃ (n_12 : Int),
 Heap.cell h b (o + 1 + 4) = some (int IntKind.i64 n_12) ∧
 ∃ (n_13 : Int),
 Heap.cell h b (o + 1 + 5) = some (int IntKind.i64 n_13) ∧
 ∃ (n_14 : Int),
 Heap.cell h b (o + 1 + 6) = some (int IntKind.i64 n_14) ∧
 ∃ (n_15 : Int),
 Heap.cell h b (o + 1 + 7) = some (int IntKind.i64 n_15) ∧
 Br (!(n == n_8 && (n_1 == n_9 && (n_2 == n_10 && (n_3 == n_11 && (n_4 == n_12 && (n_5 == n_13 && (n_6 == n_14 && (n_7 == n_15 && true)))))))))
 (Ret h K (tuple #[pointer none, int IntKind.i64 8]))
 (∃ (a : Option Addr), Heap.cell h l 0 = some (pointer a) ∧ Ret h K (tuple #[pointer a, int IntKind.i64 0])))
theorem L_ledger_Read_1r (l : Nat) (sums : Nat) (t76 : Int) (t77 : Int) (h : Heap) (K : Value → Heap → Prop) (k : L_ledger_Read_1T l sums t76 t77 h K) : L_ledger_Read_1 l sums t76 t77 h K :=
 LoopAt.of_ev (cs := []) Tryz.func65 mixed (fun junk => by kernel_rfl) k
def L_ledger_Read_2T (l : Nat) (sums : Nat) (cur : Int) (of : Option Addr) (ofn : Nat) (ofc : Nat) (t76 : Int) (t77 : Int) (t84 : Int) (t85 : Int) (h : Heap) (K : Value → Heap → Prop) : Prop :=
 Br (decide (t85 < t84))
 (∃ (a : Option Addr),
 Heap.cell h l 0 = some (pointer a) ∧
 withAddr a fun (b o : Nat) =>
 ∃ (a : Option Addr),
 ∃ (n : Nat),
 ∃ (m : Nat),
 Heap.cell h b o = some (slice a n m) ∧
 0 ≤ t85 ∧
 t85 < (↑n : Int) ∧
 withAddr a fun (b o : Nat) =>
 Br (decide (0 ≤ cur))
 (Br (decide (cur < 8))
 (∃ (n : Int),
 Heap.cell h b (o + Int.toNat t85 * 8 + Int.toNat cur) = some (int IntKind.i64 n) ∧
 newB h [int IntKind.i64 n] 2 fun (r : Nat) (h : Heap) =>
 AppA [int IntKind.i64 0] 2 h of ofn ofc 1 (some { block := r, off := 0 }) fun (ap : Option Addr) (cp : Nat) (h : Heap) =>
 L_ledger_Read_2 l sums cur ap (ofn + 1) cp t76 t77 t84 (IntKind.wrap IntKind.i64 (t85 + 1)) h K)
 False)
 False)
 (CallA Tryz.prog fn_money_Sum [slice of ofn ofc] h fun (v : Value) (h : Heap) =>
 ∃ (n : Int),
 ∃ (n_1 : Int),
 v = tuple #[int IntKind.i64 n, int IntKind.i64 n_1] ∧
 Br (n_1 != 0) (Ret h K (tuple #[pointer none, int IntKind.i64 8]))
 (Br (decide (0 ≤ cur))
 (Br (decide (cur < 8)) (Heap.canSt h sums (0 + Int.toNat cur) 1 ∧ L_ledger_Read_1 l sums t76 (IntKind.wrap IntKind.i64 (t77 + 1)) (Heap.setN h sums (0 + Int.toNat cur) [int IntKind.i64 n]) K) False) False))
theorem L_ledger_Read_2r (l : Nat) (sums : Nat) (cur : Int) (of : Option Addr) (ofn : Nat) (ofc : Nat) (t76 : Int) (t77 : Int) (t84 : Int) (t85 : Int) (h : Heap) (K : Value → Heap → Prop) (k : L_ledger_Read_2T l sums cur of ofn ofc t76 t77 t84 t85 h K) : L_ledger_Read_2 l sums cur of ofn ofc t76 t77 t84 t85 h K :=
 LoopAt.of_ev (cs := []) Tryz.func65 mixed (fun junk => by kernel_rfl) k
def F_ledger_ReadT (text : ByteArray) (h : Heap) (K : Value → Heap → Prop) : Prop :=
 Br (decide ((↑(ByteArray.size text) : Int) < 2)) (Ret h K (tuple #[pointer none, int IntKind.i64 2]))
 ((0 : Int) ≤ 0 ∧
 ∃ (c : UInt8),
 text[0]? = some c ∧
 (0 : Int) ≤ 1 ∧
 ∃ (c_1 : UInt8),
 text[1]? = some c_1 ∧
 CallA Tryz.prog fn_ledger_New [int IntKind.i64 (IntKind.wrap IntKind.i64 (↑(UInt8.toNat c) : Int)), int IntKind.i64 (IntKind.wrap IntKind.i64 (↑(UInt8.toNat c_1) : Int))] h fun (v : Value) (h : Heap) =>
 ∃ (a : Option Addr),
 ∃ (n : Int),
 v = tuple #[pointer a, int IntKind.i64 n] ∧
 newB h [pointer none] 28 fun (r : Nat) (h : Heap) =>
 Heap.canSt h r 0 1 ∧
 Br (n != 0) (Ret (Heap.setN h r 0 [pointer a]) K (tuple #[pointer none, int IntKind.i64 2]))
 (∃ (a_1 : Option Addr),
 Heap.cell (Heap.setN h r 0 [pointer a]) r 0 = some (pointer a_1) ∧
 withAddr a_1 fun (b o : Nat) =>
 ∃ (n : Int),
 Heap.cell (Heap.setN h r 0 [pointer a]) b (o + 9) = some (int IntKind.i64 n) ∧
 ∃ (a_2 : Option Addr),
 Heap.cell (Heap.setN h r 0 [pointer a]) r 0 = some (pointer a_2) ∧
 withAddr a_2 fun (b o : Nat) =>
 ∃ (a_3 : Option Addr),
 ∃ (n_1 : Nat),
 ∃ (m : Nat),
 Heap.cell (Heap.setN h r 0 [pointer a]) b o = some (slice a_3 n_1 m) ∧
 Br
 ((↑(ByteArray.size text) : Int) !=
 IntKind.wrap IntKind.i64 (2 + IntKind.wrap IntKind.i64 (IntKind.wrap IntKind.i64 (8 * n) * IntKind.wrap IntKind.i64 ((↑n_1 : Int) + 1))))
 (Ret (Heap.setN h r 0 [pointer a]) K (tuple #[pointer none, int IntKind.i64 2]))
 ((0 : Int) ≤ 2 ∧
 2 ≤ (↑(ByteArray.size text) : Int) ∧
 newB (Heap.setN h r 0 [pointer a]) [string { data := #[] }] 9 fun (r_1 : Nat) (h : Heap) =>
 Heap.canSt h r_1 0 1 ∧
 ∃ (a : Option Addr),
 Heap.cell (Heap.setN h r_1 0 [string (ByteArray.extract text 2 (ByteArray.size text))]) r 0 = some (pointer a) ∧
 withAddr a fun (b o : Nat) =>
 CallA Tryz.prog 94
 [pointer (some { block := b, off := o + 1 }), pointer (some { block := r, off := 0 }), pointer (some { block := r_1, off := 0 })]
 (Heap.setN h r_1 0 [string (ByteArray.extract text 2 (ByteArray.size text))]) fun (v : Value) (h : Heap) =>
 v = tuple #[] ∧
 ∃ (a : Option Addr),
 Heap.cell h r 0 = some (pointer a) ∧
 withAddr a fun (b o : Nat) =>
 ∃ (a : Option Addr), ∃ (n : Nat), ∃ (m : Nat), Heap.cell h b o = some (slice a n m) ∧ L_ledger_Read_0 r r r_1 (↑n : Int) 0 h K)))
theorem F_ledger_Read (text : ByteArray) (h : Heap) (K : Value → Heap → Prop) (k : F_ledger_ReadT text h K) : CallA Tryz.prog fn_ledger_Read [string text] h K :=
 CallA.of_ev (cs := []) Tryz.func65 (by kernel_rfl) (fun _ _ => Tryz.call65 _ _) mixed (by kernel_rfl) (by kernel_rfl) k
def L_ledger_Read_1_0 (r : Option Addr) (t2 : Nat) (t11 : Int) (t12 : Int) (h : Heap) (K : Value → Heap → Prop) : Prop :=
 LoopAt Tryz.prog Tryz.f94 94 (loopK Tryz.f94 0) (sp 37 [(0, pointer r), (2, pointer (some { block := t2, off := 0 })), (11, int IntKind.i64 t11), (12, int IntKind.i64 t12)]) h K
def L_ledger_Read_1_1 (r : Option Addr) (t2 : Nat) (cur : Int) (n : Int) (t11 : Int) (t12 : Int) (t17 : Option Addr) (t17n : Nat) (t17c : Nat) (t18 : Int) (t19 : Int) (h : Heap) (K : Value → Heap → Prop) : Prop :=
 LoopAt Tryz.prog Tryz.f94 94 (loopK Tryz.f94 1) (sp 37 [(0, pointer r), (2, pointer (some { block := t2, off := 0 })), (4, int IntKind.i64 cur), (5, int IntKind.i64 n), (11, int IntKind.i64 t11), (12, int IntKind.i64 t12), (17, slice t17 t17n t17c),
 (18, int IntKind.i64 t18), (19, int IntKind.i64 t19)]) h K
def L_ledger_Read_1_0T (r : Option Addr) (t2 : Nat) (t11 : Int) (t12 : Int) (h : Heap) (K : Value → Heap → Prop) : Prop :=
 Br (decide (t12 < t11))
 (∃ (s : ByteArray),
 Heap.cell h t2 0 = some (string s) ∧
 (0 : Int) ≤ 8 ∧
 8 ≤ (↑(ByteArray.size s) : Int) ∧
 BytesA (ByteArray.extract s 0 8) 5 h fun (ap : Option Addr) (cp : Nat) (h : Heap) =>
 L_ledger_Read_1_1 r t2 t12 0 t11 t12 ap (ByteArray.size (ByteArray.extract s 0 8)) cp (↑(ByteArray.size (ByteArray.extract s 0 8)) : Int) 0 h K)
 (Ret h K (tuple #[]))
theorem L_ledger_Read_1_0r (r : Option Addr) (t2 : Nat) (t11 : Int) (t12 : Int) (h : Heap) (K : Value → Heap → Prop) (k : L_ledger_Read_1_0T r t2 t11 t12 h K) : L_ledger_Read_1_0 r t2 t11 t12 h K :=
 LoopAt.of_ev (cs := []) Tryz.func94 mixed (fun junk => by kernel_rfl) k
def L_ledger_Read_1_1T (r : Option Addr) (t2 : Nat) (cur : Int) (n : Int) (t11 : Int) (t12 : Int) (t17 : Option Addr) (t17n : Nat) (t17c : Nat) (t18 : Int) (t19 : Int) (h : Heap) (K : Value → Heap → Prop) : Prop :=
 Br (decide (t19 < t18))
 (0 ≤ t19 ∧
 t19 < (↑t17n : Int) ∧
 withAddr t17 fun (b o : Nat) =>
 ∃ (n_1 : Int),
 Heap.cell h b (o + Int.toNat t19) = some (int IntKind.u8 n_1) ∧
 L_ledger_Read_1_1 r t2 cur (IntKind.wrap IntKind.i64 (↑(BitVec.toNat (BitVec.ofInt 64 (IntKind.wrap IntKind.i64 (n * 256)) ||| BitVec.ofInt 64 (IntKind.wrap IntKind.i64 n_1))) : Int)) t11 t12 t17 t17n t17c t18
 (IntKind.wrap IntKind.i64 (t19 + 1)) h K)
 (withAddr r fun (b o : Nat) =>
 Br (decide (0 ≤ cur))
 (Br (decide (cur < 8))
 (Heap.canSt h b (o + Int.toNat cur) 1 ∧
 ∃ (s : ByteArray),
 Heap.cell (Heap.setN h b (o + Int.toNat cur) [int IntKind.i64 n]) t2 0 = some (string s) ∧
 (0 : Int) ≤ 8 ∧
 8 ≤ (↑(ByteArray.size s) : Int) ∧
 Heap.canSt (Heap.setN h b (o + Int.toNat cur) [int IntKind.i64 n]) t2 0 1 ∧
 L_ledger_Read_1_0 r t2 t11 (IntKind.wrap IntKind.i64 (t12 + 1)) (Heap.setN (Heap.setN h b (o + Int.toNat cur) [int IntKind.i64 n]) t2 0 [string (ByteArray.extract s 8 (ByteArray.size s))]) K)
 False)
 False)
theorem L_ledger_Read_1_1r (r : Option Addr) (t2 : Nat) (cur : Int) (n : Int) (t11 : Int) (t12 : Int) (t17 : Option Addr) (t17n : Nat) (t17c : Nat) (t18 : Int) (t19 : Int) (h : Heap) (K : Value → Heap → Prop) (k : L_ledger_Read_1_1T r t2 cur n t11 t12 t17 t17n t17c t18 t19 h K) : L_ledger_Read_1_1 r t2 cur n t11 t12 t17 t17n t17c t18 t19 h K :=
 LoopAt.of_ev (cs := []) Tryz.func94 mixed (fun junk => by kernel_rfl) k
def F_ledger_Read_1T (r : Option Addr) (c0 : Nat) (c1 : Nat) (h : Heap) (K : Value → Heap → Prop) : Prop :=
 ∃ (a : Option Addr), Heap.cell h c0 0 = some (pointer a) ∧ withAddr a fun (b o : Nat) => ∃ (n : Int), Heap.cell h b (o + 9) = some (int IntKind.i64 n) ∧ L_ledger_Read_1_0 r c1 n 0 h K
theorem F_ledger_Read_1 (r : Option Addr) (c0 : Nat) (c1 : Nat) (h : Heap) (K : Value → Heap → Prop) (k : F_ledger_Read_1T r c0 c1 h K) : CallA Tryz.prog fn_ledger_Read_1 [pointer r, pointer (some { block := c0, off := 0 }), pointer (some { block := c1, off := 0 })] h K :=
 CallA.of_ev (cs := []) Tryz.func94 (by kernel_rfl) (fun _ _ => Tryz.call94 _ _) mixed (by kernel_rfl) (by kernel_rfl) k
end Go.Proofs.YtghdadniddoboaaGreat
