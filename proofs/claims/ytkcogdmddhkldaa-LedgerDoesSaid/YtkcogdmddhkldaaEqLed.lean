import Derived.Test.YtkcogdmddhkldaaEqN
namespace Go.Proofs.Ytkcogdmddhkldaa
open Go Go.Sy Go.Value
set_option linter.unusedVariables false
set_option maxRecDepth 100000
def F_ledger_NewT (members : Int) (currencies : Int) (h : Heap) (K : Value → Heap → Prop) : Prop :=
 Br (decide (members < 1)) (Ret h K (tuple #[pointer none, int IntKind.i64 1]))
 (Br (decide (members > 16)) (Ret h K (tuple #[pointer none, int IntKind.i64 1]))
 (Br (decide (currencies < 1)) (Ret h K (tuple #[pointer none, int IntKind.i64 1]))
 (Br (decide (currencies > 8)) (Ret h K (tuple #[pointer none, int IntKind.i64 1]))
 (0 ≤ members ∧
 members ≤ members ∧
 members ≤ 281474976710656 ∧
 64 * members ≤ 281474976710656 ∧
 newB h (repL (Int.toNat members) [int IntKind.i64 0, int IntKind.i64 0, int IntKind.i64 0, int IntKind.i64 0, int IntKind.i64 0, int IntKind.i64 0, int IntKind.i64 0, int IntKind.i64 0]) 149
 fun (r : Nat) (h : Heap) =>
 newB h
 [slice (some { block := r, off := 0 }) (Int.toNat members) (Int.toNat members), int IntKind.i64 0, int IntKind.i64 0, int IntKind.i64 0, int IntKind.i64 0, int IntKind.i64 0, int IntKind.i64 0,
 int IntKind.i64 0, int IntKind.i64 0, int IntKind.i64 currencies]
 151 fun (r : Nat) (h : Heap) => Ret h K (tuple #[pointer (some { block := r, off := 0 }), int IntKind.i64 0])))))
theorem F_ledger_New (members : Int) (currencies : Int) (h : Heap) (K : Value → Heap → Prop) (k : F_ledger_NewT members currencies h K) : CallA Try.prog fn_ledger_New [int IntKind.i64 members, int IntKind.i64 currencies] h K :=
 CallA.of_ev (cs := []) Try.func46 (by kernel_rfl) (fun _ _ => Try.call46 _ _) mixed (by kernel_rfl) (by kernel_rfl) k
def F_pledger_Ledger_hasT (l : Option Addr) (member : Int) (cur : Int) (h : Heap) (K : Value → Heap → Prop) : Prop :=
 Br (decide (member ≥ 0))
 (withAddr l fun (b o : Nat) =>
 ∃ (a : Option Addr),
 ∃ (n : Nat),
 ∃ (m : Nat),
 Heap.cell h b o = some (slice a n m) ∧
 Br (decide (member < (↑n : Int)))
 (Br (decide (cur ≥ 0)) (withAddr l fun (b o : Nat) => ∃ (n : Int), Heap.cell h b (o + 9) = some (int IntKind.i64 n) ∧ Ret h K (Value.bool (decide (cur < n)))) (Ret h K (Value.bool false)))
 (Ret h K (Value.bool false)))
 (Ret h K (Value.bool false))
theorem F_pledger_Ledger_has (l : Option Addr) (member : Int) (cur : Int) (h : Heap) (K : Value → Heap → Prop) (k : F_pledger_Ledger_hasT l member cur h K) : CallA Try.prog fn_pledger_Ledger_has [pointer l, int IntKind.i64 member, int IntKind.i64 cur] h K :=
 CallA.of_ev (cs := []) Try.func95 (by kernel_rfl) (fun _ _ => Try.call95 _ _) mixed (by kernel_rfl) (by kernel_rfl) k
def F_pledger_Ledger_GetT (l : Option Addr) (member : Int) (cur : Int) (h : Heap) (K : Value → Heap → Prop) : Prop :=
 CallA Try.prog fn_pledger_Ledger_has [pointer l, int IntKind.i64 member, int IntKind.i64 cur] h fun (v : Value) (h : Heap) =>
 ∃ (b : Bool),
 v = Value.bool b ∧
 Br (!b) (Ret h K (int IntKind.i64 0))
 (withAddr l fun (b o : Nat) =>
 ∃ (a : Option Addr),
 ∃ (n : Nat),
 ∃ (m : Nat),
 Heap.cell h b o = some (slice a n m) ∧
 0 ≤ member ∧
 member < (↑n : Int) ∧
 withAddr a fun (b o : Nat) =>
 Br (decide (0 ≤ cur)) (Br (decide (cur < 8)) (∃ (n : Int), Heap.cell h b (o + Int.toNat member * 8 + Int.toNat cur) = some (int IntKind.i64 n) ∧ Ret h K (int IntKind.i64 n)) False) False)
theorem F_pledger_Ledger_Get (l : Option Addr) (member : Int) (cur : Int) (h : Heap) (K : Value → Heap → Prop) (k : F_pledger_Ledger_GetT l member cur h K) : CallA Try.prog fn_pledger_Ledger_Get [pointer l, int IntKind.i64 member, int IntKind.i64 cur] h K :=
 CallA.of_ev (cs := []) Try.func55 (by kernel_rfl) (fun _ _ => Try.call55 _ _) mixed (by kernel_rfl) (by kernel_rfl) k
def F_pledger_Ledger_NostroT (l : Option Addr) (cur : Int) (h : Heap) (K : Value → Heap → Prop) : Prop :=
 CallA Try.prog fn_pledger_Ledger_has [pointer l, int IntKind.i64 0, int IntKind.i64 cur] h fun (v : Value) (h : Heap) =>
 ∃ (b : Bool),
 v = Value.bool b ∧
 Br (!b) (Ret h K (int IntKind.i64 0))
 (withAddr l fun (b o : Nat) => Br (decide (0 ≤ cur)) (Br (decide (cur < 8)) (∃ (n : Int), Heap.cell h b (o + 1 + Int.toNat cur) = some (int IntKind.i64 n) ∧ Ret h K (int IntKind.i64 n)) False) False)
theorem F_pledger_Ledger_Nostro (l : Option Addr) (cur : Int) (h : Heap) (K : Value → Heap → Prop) (k : F_pledger_Ledger_NostroT l cur h K) : CallA Try.prog fn_pledger_Ledger_Nostro [pointer l, int IntKind.i64 cur] h K :=
 CallA.of_ev (cs := []) Try.func57 (by kernel_rfl) (fun _ _ => Try.call57 _ _) mixed (by kernel_rfl) (by kernel_rfl) k
def F_pledger_Ledger_SizeT (l : Option Addr) (h : Heap) (K : Value → Heap → Prop) : Prop :=
 withAddr l fun (b o : Nat) =>
 ∃ (a : Option Addr),
 ∃ (n : Nat),
 ∃ (m : Nat),
 Heap.cell h b o = some (slice a n m) ∧ withAddr l fun (b o : Nat) => ∃ (n_1 : Int), Heap.cell h b (o + 9) = some (int IntKind.i64 n_1) ∧ Ret h K (tuple #[int IntKind.i64 (↑n : Int), int IntKind.i64 n_1])
theorem F_pledger_Ledger_Size (l : Option Addr) (h : Heap) (K : Value → Heap → Prop) (k : F_pledger_Ledger_SizeT l h K) : CallA Try.prog fn_pledger_Ledger_Size [pointer l] h K :=
 CallA.of_ev (cs := []) Try.func87 (by kernel_rfl) (fun _ _ => Try.call87 _ _) mixed (by kernel_rfl) (by kernel_rfl) k
def L_pledger_Ledger_even_0 (batch : Option Addr) (batchn : Nat) (batchc : Nat) (t14 : Int) (t15 : Int) (h : Heap) (K : Value → Heap → Prop) : Prop :=
 LoopAt Try.prog Try.f97 97 (loopK Try.f97 0) (sp 46 [(1, slice batch batchn batchc), (14, int IntKind.i64 t14), (15, int IntKind.i64 t15)]) h K
def L_pledger_Ledger_even_1 (batch : Option Addr) (batchn : Nat) (batchc : Nat) (cur : Int) (of : Option Addr) (ofn : Nat) (ofc : Nat) (t14 : Int) (t15 : Int) (t18 : Option Addr) (t18n : Nat) (t18c : Nat) (t19 : Int) (t20 : Int) (h : Heap) (K : Value → Heap → Prop) : Prop :=
 LoopAt Try.prog Try.f97 97 (loopK Try.f97 1) (sp 46 [(1, slice batch batchn batchc), (5, int IntKind.i64 cur), (6, slice of ofn ofc), (14, int IntKind.i64 t14), (15, int IntKind.i64 t15), (18, slice t18 t18n t18c), (19, int IntKind.i64 t19), (20, int IntKind.i64 t20)]) h K
def L_pledger_Ledger_even_0T (batch : Option Addr) (batchn : Nat) (batchc : Nat) (t14 : Int) (t15 : Int) (h : Heap) (K : Value → Heap → Prop) : Prop :=
 Br (decide (t15 < t14)) (L_pledger_Ledger_even_1 batch batchn batchc t15 none 0 0 t14 t15 batch batchn batchc (↑batchn : Int) 0 h K) (Ret h K (Value.bool true))
theorem L_pledger_Ledger_even_0r (batch : Option Addr) (batchn : Nat) (batchc : Nat) (t14 : Int) (t15 : Int) (h : Heap) (K : Value → Heap → Prop) (k : L_pledger_Ledger_even_0T batch batchn batchc t14 t15 h K) : L_pledger_Ledger_even_0 batch batchn batchc t14 t15 h K :=
 LoopAt.of_ev (cs := []) Try.func97 mixed (fun junk => by kernel_rfl) k
def L_pledger_Ledger_even_1T (batch : Option Addr) (batchn : Nat) (batchc : Nat) (cur : Int) (of : Option Addr) (ofn : Nat) (ofc : Nat) (t14 : Int) (t15 : Int) (t18 : Option Addr) (t18n : Nat) (t18c : Nat) (t19 : Int) (t20 : Int) (h : Heap) (K : Value → Heap → Prop) : Prop :=
 Br (decide (t20 < t19))
 (0 ≤ t20 ∧
 t20 < (↑t18n : Int) ∧
 withAddr t18 fun (b o : Nat) =>
 ∃ (n : Int),
 Heap.cell h b (o + Int.toNat t20 * 3) = some (int IntKind.i64 n) ∧
 ∃ (n_1 : Int),
 Heap.cell h b (o + Int.toNat t20 * 3 + 1) = some (int IntKind.i64 n_1) ∧
 ∃ (n_2 : Int),
 Heap.cell h b (o + Int.toNat t20 * 3 + 2) = some (int IntKind.i64 n_2) ∧
 newB h [int IntKind.i64 0, int IntKind.i64 0, int IntKind.i64 0] 102 fun (r : Nat) (h : Heap) =>
 Heap.canSt h r 0 3 ∧
 ∃ (n_3 : Int),
 Heap.cell (Heap.setN h r 0 [int IntKind.i64 n, int IntKind.i64 n_1, int IntKind.i64 n_2]) r 1 = some (int IntKind.i64 n_3) ∧
 Br (n_3 == cur)
 (∃ (n_4 : Int),
 Heap.cell (Heap.setN h r 0 [int IntKind.i64 n, int IntKind.i64 n_1, int IntKind.i64 n_2]) r 2 = some (int IntKind.i64 n_4) ∧
 newB (Heap.setN h r 0 [int IntKind.i64 n, int IntKind.i64 n_1, int IntKind.i64 n_2]) [int IntKind.i64 n_4] 2 fun (r : Nat) (h : Heap) =>
 AppA [int IntKind.i64 0] 2 h of ofn ofc 1 (some { block := r, off := 0 }) fun (ap : Option Addr) (cp : Nat) (h : Heap) =>
 L_pledger_Ledger_even_1 batch batchn batchc cur ap (ofn + 1) cp t14 t15 t18 t18n t18c t19 (IntKind.wrap IntKind.i64 (t20 + 1)) h K)
 (L_pledger_Ledger_even_1 batch batchn batchc cur of ofn ofc t14 t15 t18 t18n t18c t19 (IntKind.wrap IntKind.i64 (t20 + 1)) (Heap.setN h r 0 [int IntKind.i64 n, int IntKind.i64 n_1, int IntKind.i64 n_2]) K))
 (CallA Try.prog fn_money_Sum [slice of ofn ofc] h fun (v : Value) (h : Heap) =>
 ∃ (n : Int),
 ∃ (n_1 : Int),
 v = tuple #[int IntKind.i64 n, int IntKind.i64 n_1] ∧
 Br (n != 0) (Ret h K (Value.bool false)) (Br (n_1 != 0) (Ret h K (Value.bool false)) (L_pledger_Ledger_even_0 batch batchn batchc t14 (IntKind.wrap IntKind.i64 (t15 + 1)) h K)))
theorem L_pledger_Ledger_even_1r (batch : Option Addr) (batchn : Nat) (batchc : Nat) (cur : Int) (of : Option Addr) (ofn : Nat) (ofc : Nat) (t14 : Int) (t15 : Int) (t18 : Option Addr) (t18n : Nat) (t18c : Nat) (t19 : Int) (t20 : Int) (h : Heap) (K : Value → Heap → Prop) (k : L_pledger_Ledger_even_1T batch batchn batchc cur of ofn ofc t14 t15 t18 t18n t18c t19 t20 h K) : L_pledger_Ledger_even_1 batch batchn batchc cur of ofn ofc t14 t15 t18 t18n t18c t19 t20 h K :=
 LoopAt.of_ev (cs := []) Try.func97 mixed (fun junk => by kernel_rfl) k
def F_pledger_Ledger_evenT (l : Option Addr) (batch : Option Addr) (batchn : Nat) (batchc : Nat) (h : Heap) (K : Value → Heap → Prop) : Prop :=
 withAddr l fun (b o : Nat) => ∃ (n : Int), Heap.cell h b (o + 9) = some (int IntKind.i64 n) ∧ L_pledger_Ledger_even_0 batch batchn batchc n 0 h K
theorem F_pledger_Ledger_even (l : Option Addr) (batch : Option Addr) (batchn : Nat) (batchc : Nat) (h : Heap) (K : Value → Heap → Prop) (k : F_pledger_Ledger_evenT l batch batchn batchc h K) : CallA Try.prog fn_pledger_Ledger_even [pointer l, slice batch batchn batchc] h K :=
 CallA.of_ev (cs := []) Try.func97 (by kernel_rfl) (fun _ _ => Try.call97 _ _) mixed (by kernel_rfl) (by kernel_rfl) k
def L_pledger_Ledger_Post_0 (l : Option Addr) (batch : Option Addr) (batchn : Nat) (batchc : Nat) (t12 : Option Addr) (t12n : Nat) (t12c : Nat) (t13 : Int) (t14 : Int) (h : Heap) (K : Value → Heap → Prop) : Prop :=
 LoopAt Try.prog Try.f60 60 (loopK Try.f60 0) (sp 71 [(0, pointer l), (1, slice batch batchn batchc), (12, slice t12 t12n t12c), (13, int IntKind.i64 t13), (14, int IntKind.i64 t14)]) h K
def L_pledger_Ledger_Post_1 (l : Option Addr) (rows : Option Addr) (rowsn : Nat) (rowsc : Nat) (t35 : Option Addr) (t35n : Nat) (t35c : Nat) (t36 : Int) (t37 : Int) (h : Heap) (K : Value → Heap → Prop) : Prop :=
 LoopAt Try.prog Try.f60 60 (loopK Try.f60 1) (sp 71 [(0, pointer l), (7, slice rows rowsn rowsc), (35, slice t35 t35n t35c), (36, int IntKind.i64 t36), (37, int IntKind.i64 t37)]) h K
def L_pledger_Ledger_Post_0T (l : Option Addr) (batch : Option Addr) (batchn : Nat) (batchc : Nat) (t12 : Option Addr) (t12n : Nat) (t12c : Nat) (t13 : Int) (t14 : Int) (h : Heap) (K : Value → Heap → Prop) : Prop :=
 Br (decide (t14 < t13))
 (0 ≤ t14 ∧
 t14 < (↑t12n : Int) ∧
 withAddr t12 fun (b o : Nat) =>
 ∃ (n : Int),
 Heap.cell h b (o + Int.toNat t14 * 3) = some (int IntKind.i64 n) ∧
 ∃ (n_1 : Int),
 Heap.cell h b (o + Int.toNat t14 * 3 + 1) = some (int IntKind.i64 n_1) ∧
 ∃ (n_2 : Int),
 Heap.cell h b (o + Int.toNat t14 * 3 + 2) = some (int IntKind.i64 n_2) ∧
 newB h [int IntKind.i64 0, int IntKind.i64 0, int IntKind.i64 0] 102 fun (r : Nat) (h : Heap) =>
 Heap.canSt h r 0 3 ∧
 ∃ (n_3 : Int),
 Heap.cell (Heap.setN h r 0 [int IntKind.i64 n, int IntKind.i64 n_1, int IntKind.i64 n_2]) r 0 = some (int IntKind.i64 n_3) ∧
 ∃ (n_4 : Int),
 Heap.cell (Heap.setN h r 0 [int IntKind.i64 n, int IntKind.i64 n_1, int IntKind.i64 n_2]) r 1 = some (int IntKind.i64 n_4) ∧
 CallA Try.prog fn_pledger_Ledger_has [pointer l, int IntKind.i64 n_3, int IntKind.i64 n_4] (Heap.setN h r 0 [int IntKind.i64 n, int IntKind.i64 n_1, int IntKind.i64 n_2]) fun (v : Value) (h : Heap) =>
 ∃ (b : Bool), v = Value.bool b ∧ Br (!b) (Ret h K (int IntKind.i64 1)) (L_pledger_Ledger_Post_0 l batch batchn batchc t12 t12n t12c t13 (IntKind.wrap IntKind.i64 (t14 + 1)) h K))
 (CallA Try.prog fn_pledger_Ledger_even [pointer l, slice batch batchn batchc] h fun (v : Value) (h : Heap) =>
 ∃ (b : Bool),
 v = Value.bool b ∧
 Br (!b) (Ret h K (int IntKind.i64 12))
 (withAddr l fun (b o : Nat) =>
 ∃ (a : Option Addr),
 ∃ (n : Nat),
 ∃ (m : Nat),
 Heap.cell h b o = some (slice a n m) ∧
 AppA [int IntKind.i64 0, int IntKind.i64 0, int IntKind.i64 0, int IntKind.i64 0, int IntKind.i64 0, int IntKind.i64 0, int IntKind.i64 0, int IntKind.i64 0] 149 h none 0 0 n a
 fun (ap : Option Addr) (cp : Nat) (h : Heap) => L_pledger_Ledger_Post_1 l ap (0 + n) cp batch batchn batchc (↑batchn : Int) 0 h K))
theorem L_pledger_Ledger_Post_0r (l : Option Addr) (batch : Option Addr) (batchn : Nat) (batchc : Nat) (t12 : Option Addr) (t12n : Nat) (t12c : Nat) (t13 : Int) (t14 : Int) (h : Heap) (K : Value → Heap → Prop) (k : L_pledger_Ledger_Post_0T l batch batchn batchc t12 t12n t12c t13 t14 h K) : L_pledger_Ledger_Post_0 l batch batchn batchc t12 t12n t12c t13 t14 h K :=
 LoopAt.of_ev (cs := []) Try.func60 mixed (fun junk => by kernel_rfl) k
def L_pledger_Ledger_Post_1T (l : Option Addr) (rows : Option Addr) (rowsn : Nat) (rowsc : Nat) (t35 : Option Addr) (t35n : Nat) (t35c : Nat) (t36 : Int) (t37 : Int) (h : Heap) (K : Value → Heap → Prop) : Prop :=
 Br (decide (t37 < t36))
 (0 ≤ t37 ∧
 t37 < (↑t35n : Int) ∧
 withAddr t35 fun (b o : Nat) =>
 ∃ (n : Int),
 Heap.cell h b (o + Int.toNat t37 * 3) = some (int IntKind.i64 n) ∧
 ∃ (n_1 : Int),
 Heap.cell h b (o + Int.toNat t37 * 3 + 1) = some (int IntKind.i64 n_1) ∧
 ∃ (n_2 : Int),
 Heap.cell h b (o + Int.toNat t37 * 3 + 2) = some (int IntKind.i64 n_2) ∧
 newB h [int IntKind.i64 0, int IntKind.i64 0, int IntKind.i64 0] 102 fun (r : Nat) (h : Heap) =>
 Heap.canSt h r 0 3 ∧
 ∃ (n_3 : Int),
 Heap.cell (Heap.setN h r 0 [int IntKind.i64 n, int IntKind.i64 n_1, int IntKind.i64 n_2]) r 0 = some (int IntKind.i64 n_3) ∧
 ∃ (n_4 : Int),
 Heap.cell (Heap.setN h r 0 [int IntKind.i64 n, int IntKind.i64 n_1, int IntKind.i64 n_2]) r 1 = some (int IntKind.i64 n_4) ∧
 0 ≤ n_3 ∧
 n_3 < (↑rowsn : Int) ∧
 withAddr rows fun (b o : Nat) =>
 Br (decide (0 ≤ n_4))
 (Br (decide (n_4 < 8))
 (∃ (n_5 : Int),
 Heap.cell (Heap.setN h r 0 [int IntKind.i64 n, int IntKind.i64 n_1, int IntKind.i64 n_2]) b (o + Int.toNat n_3 * 8 + Int.toNat n_4) = some (int IntKind.i64 n_5) ∧
 ∃ (n_6 : Int),
 Heap.cell (Heap.setN h r 0 [int IntKind.i64 n, int IntKind.i64 n_1, int IntKind.i64 n_2]) r 2 = some (int IntKind.i64 n_6) ∧
 CallA Try.prog fn_money_Add [int IntKind.i64 n_5, int IntKind.i64 n_6] (Heap.setN h r 0 [int IntKind.i64 n, int IntKind.i64 n_1, int IntKind.i64 n_2])
 fun (v : Value) (h : Heap) =>
 ∃ (n : Int),
 ∃ (n_7 : Int),
 v = tuple #[int IntKind.i64 n, int IntKind.i64 n_7] ∧
 Br (n_7 != 0) (Ret h K (int IntKind.i64 n_7))
 (∃ (n_8 : Int),
 Heap.cell h r 0 = some (int IntKind.i64 n_8) ∧
 ∃ (n_9 : Int),
 Heap.cell h r 1 = some (int IntKind.i64 n_9) ∧
 0 ≤ n_8 ∧
 n_8 < (↑rowsn : Int) ∧
 withAddr rows fun (b o : Nat) =>
 Br (decide (0 ≤ n_9))
 (Br (decide (n_9 < 8))
 (Heap.canSt h b (o + Int.toNat n_8 * 8 + Int.toNat n_9) 1 ∧
 L_pledger_Ledger_Post_1 l rows rowsn rowsc t35 t35n t35c t36 (IntKind.wrap IntKind.i64 (t37 + 1))
 (Heap.setN h b (o + Int.toNat n_8 * 8 + Int.toNat n_9) [int IntKind.i64 n]) K)
 False)
 False))
 False)
 False)
 (withAddr l fun (b o : Nat) => Heap.canSt h b o 1 ∧ Ret (Heap.setN h b o [slice rows rowsn rowsc]) K (int IntKind.i64 0))
theorem L_pledger_Ledger_Post_1r (l : Option Addr) (rows : Option Addr) (rowsn : Nat) (rowsc : Nat) (t35 : Option Addr) (t35n : Nat) (t35c : Nat) (t36 : Int) (t37 : Int) (h : Heap) (K : Value → Heap → Prop) (k : L_pledger_Ledger_Post_1T l rows rowsn rowsc t35 t35n t35c t36 t37 h K) : L_pledger_Ledger_Post_1 l rows rowsn rowsc t35 t35n t35c t36 t37 h K :=
 LoopAt.of_ev (cs := []) Try.func60 mixed (fun junk => by kernel_rfl) k
def F_pledger_Ledger_PostT (l : Option Addr) (batch : Option Addr) (batchn : Nat) (batchc : Nat) (h : Heap) (K : Value → Heap → Prop) : Prop :=
 L_pledger_Ledger_Post_0 l batch batchn batchc batch batchn batchc (↑batchn : Int) 0 h K
theorem F_pledger_Ledger_Post (l : Option Addr) (batch : Option Addr) (batchn : Nat) (batchc : Nat) (h : Heap) (K : Value → Heap → Prop) (k : F_pledger_Ledger_PostT l batch batchn batchc h K) : CallA Try.prog fn_pledger_Ledger_Post [pointer l, slice batch batchn batchc] h K :=
 CallA.of_ev (cs := []) Try.func60 (by kernel_rfl) (fun _ _ => Try.call60 _ _) mixed (by kernel_rfl) (by kernel_rfl) k
def F_pledger_Ledger_InT (l : Option Addr) (member : Int) (cur : Int) (amount : Int) (h : Heap) (K : Value → Heap → Prop) : Prop :=
 CallA Try.prog fn_pledger_Ledger_has [pointer l, int IntKind.i64 member, int IntKind.i64 cur] h fun (v : Value) (h : Heap) =>
 ∃ (b : Bool),
 v = Value.bool b ∧
 Br (!b) (Ret h K (int IntKind.i64 1))
 (Br (decide (amount < 1)) (Ret h K (int IntKind.i64 1))
 (withAddr l fun (b o : Nat) =>
 ∃ (a : Option Addr),
 ∃ (n : Nat),
 ∃ (m : Nat),
 Heap.cell h b o = some (slice a n m) ∧
 0 ≤ member ∧
 member < (↑n : Int) ∧
 withAddr a fun (b o : Nat) =>
 Br (decide (0 ≤ cur))
 (Br (decide (cur < 8))
 (∃ (n : Int),
 Heap.cell h b (o + Int.toNat member * 8 + Int.toNat cur) = some (int IntKind.i64 n) ∧
 CallA Try.prog fn_money_Add [int IntKind.i64 n, int IntKind.i64 amount] h fun (v : Value) (h : Heap) =>
 ∃ (n : Int),
 ∃ (n_1 : Int),
 v = tuple #[int IntKind.i64 n, int IntKind.i64 n_1] ∧
 withAddr l fun (b o : Nat) =>
 Br (decide (0 ≤ cur))
 (Br (decide (cur < 8))
 (∃ (n_2 : Int),
 Heap.cell h b (o + 1 + Int.toNat cur) = some (int IntKind.i64 n_2) ∧
 CallA Try.prog fn_money_Add [int IntKind.i64 n_2, int IntKind.i64 amount] h fun (v : Value) (h : Heap) =>
 ∃ (n_3 : Int),
 ∃ (n_4 : Int),
 v = tuple #[int IntKind.i64 n_3, int IntKind.i64 n_4] ∧
 Br (n_1 != 0) (Ret h K (int IntKind.i64 3))
 (Br (n_4 != 0) (Ret h K (int IntKind.i64 3))
 (withAddr l fun (b o : Nat) =>
 ∃ (a : Option Addr),
 ∃ (n_5 : Nat),
 ∃ (m : Nat),
 Heap.cell h b o = some (slice a n_5 m) ∧
 0 ≤ member ∧
 member < (↑n_5 : Int) ∧
 withAddr a fun (b o : Nat) =>
 Br (decide (0 ≤ cur))
 (Br (decide (cur < 8))
 (withAddr l fun (b_1 o_1 : Nat) =>
 Heap.canSt h b (o + Int.toNat member * 8 + Int.toNat cur) 1 ∧
 Br (decide (0 ≤ cur))
 (Br (decide (cur < 8))
 (Heap.canSt (Heap.setN h b (o + Int.toNat member * 8 + Int.toNat cur) [int IntKind.i64 n]) b_1 (o_1 + 1 + Int.toNat cur) 1 ∧
 Ret
 (Heap.setN (Heap.setN h b (o + Int.toNat member * 8 + Int.toNat cur) [int IntKind.i64 n]) b_1 (o_1 + 1 + Int.toNat cur)
 [int IntKind.i64 n_3])
 K (int IntKind.i64 0))
 False)
 False)
 False)
 False)))
 False)
 False)
 False)
 False))
theorem F_pledger_Ledger_In (l : Option Addr) (member : Int) (cur : Int) (amount : Int) (h : Heap) (K : Value → Heap → Prop) (k : F_pledger_Ledger_InT l member cur amount h K) : CallA Try.prog fn_pledger_Ledger_In [pointer l, int IntKind.i64 member, int IntKind.i64 cur, int IntKind.i64 amount] h K :=
 CallA.of_ev (cs := []) Try.func61 (by kernel_rfl) (fun _ _ => Try.call61 _ _) mixed (by kernel_rfl) (by kernel_rfl) k
def F_pledger_Ledger_OutT (l : Option Addr) (member : Int) (cur : Int) (amount : Int) (h : Heap) (K : Value → Heap → Prop) : Prop :=
 CallA Try.prog fn_pledger_Ledger_has [pointer l, int IntKind.i64 member, int IntKind.i64 cur] h fun (v : Value) (h : Heap) =>
 ∃ (b : Bool),
 v = Value.bool b ∧
 Br (!b) (Ret h K (int IntKind.i64 1))
 (Br (decide (amount < 1)) (Ret h K (int IntKind.i64 1))
 (withAddr l fun (b o : Nat) =>
 ∃ (a : Option Addr),
 ∃ (n : Nat),
 ∃ (m : Nat),
 Heap.cell h b o = some (slice a n m) ∧
 0 ≤ member ∧
 member < (↑n : Int) ∧
 withAddr a fun (b o : Nat) =>
 Br (decide (0 ≤ cur))
 (Br (decide (cur < 8))
 (∃ (n : Int),
 Heap.cell h b (o + Int.toNat member * 8 + Int.toNat cur) = some (int IntKind.i64 n) ∧
 Br (decide (n < amount)) (Ret h K (int IntKind.i64 10))
 (withAddr l fun (b o : Nat) =>
 Br (decide (0 ≤ cur))
 (Br (decide (cur < 8))
 (∃ (n : Int),
 Heap.cell h b (o + 1 + Int.toNat cur) = some (int IntKind.i64 n) ∧
 Br (decide (n < amount)) (Ret h K (int IntKind.i64 10))
 (withAddr l fun (b o : Nat) =>
 ∃ (a : Option Addr),
 ∃ (n : Nat),
 ∃ (m : Nat),
 Heap.cell h b o = some (slice a n m) ∧
 0 ≤ member ∧
 member < (↑n : Int) ∧
 withAddr a fun (b o : Nat) =>
 Br (decide (0 ≤ cur))
 (Br (decide (cur < 8))
 (∃ (n_1 : Int),
 Heap.cell h b (o + Int.toNat member * 8 + Int.toNat cur) = some (int IntKind.i64 n_1) ∧
 0 ≤ member ∧
 member < (↑n : Int) ∧
 withAddr a fun (b o : Nat) =>
 Br (decide (0 ≤ cur))
 (Br (decide (cur < 8))
 (Heap.canSt h b (o + Int.toNat member * 8 + Int.toNat cur) 1 ∧
 withAddr l fun (b_1 o_1 : Nat) =>
 Br (decide (0 ≤ cur))
 (Br (decide (cur < 8))
 (∃ (n : Int),
 Heap.cell (Heap.setN h b (o + Int.toNat member * 8 + Int.toNat cur) [int IntKind.i64 (IntKind.wrap IntKind.i64 (n_1 - amount))])
 b_1 (o_1 + 1 + Int.toNat cur) =
 some (int IntKind.i64 n) ∧
 withAddr l fun (b_2 o_2 : Nat) =>
 Br (decide (0 ≤ cur))
 (Br (decide (cur < 8))
 (Heap.canSt
 (Heap.setN h b (o + Int.toNat member * 8 + Int.toNat cur)
 [int IntKind.i64 (IntKind.wrap IntKind.i64 (n_1 - amount))])
 b_2 (o_2 + 1 + Int.toNat cur) 1 ∧
 Ret
 (Heap.setN
 (Heap.setN h b (o + Int.toNat member * 8 + Int.toNat cur)
 [int IntKind.i64 (IntKind.wrap IntKind.i64 (n_1 - amount))])
 b_2 (o_2 + 1 + Int.toNat cur) [int IntKind.i64 (IntKind.wrap IntKind.i64 (n - amount))])
 K (int IntKind.i64 0))
 False)
 False)
 False)
 False)
 False)
 False)
 False)
 False))
 False)
 False))
 False)
 False))
theorem F_pledger_Ledger_Out (l : Option Addr) (member : Int) (cur : Int) (amount : Int) (h : Heap) (K : Value → Heap → Prop) (k : F_pledger_Ledger_OutT l member cur amount h K) : CallA Try.prog fn_pledger_Ledger_Out [pointer l, int IntKind.i64 member, int IntKind.i64 cur, int IntKind.i64 amount] h K :=
 CallA.of_ev (cs := []) Try.func62 (by kernel_rfl) (fun _ _ => Try.call62 _ _) mixed (by kernel_rfl) (by kernel_rfl) k
def F_pledger_Ledger_SwapT (l : Option Addr) (member : Int) (get : Int) (give : Int) (got : Int) (given : Int) (h : Heap) (K : Value → Heap → Prop) : Prop :=
 CallA Try.prog fn_pledger_Ledger_has [pointer l, int IntKind.i64 member, int IntKind.i64 get] h fun (v : Value) (h : Heap) =>
 ∃ (b : Bool),
 v = Value.bool b ∧
 Br (!b) (Ret h K (int IntKind.i64 1))
 (CallA Try.prog fn_pledger_Ledger_has [pointer l, int IntKind.i64 member, int IntKind.i64 give] h fun (v : Value) (h : Heap) =>
 ∃ (b : Bool),
 v = Value.bool b ∧
 Br (!b) (Ret h K (int IntKind.i64 1))
 (Br (get == give) (Ret h K (int IntKind.i64 1))
 (Br (decide (got < 1)) (Ret h K (int IntKind.i64 1))
 (Br (decide (given < 1)) (Ret h K (int IntKind.i64 1))
 (withAddr l fun (b o : Nat) =>
 Br (decide (0 ≤ give))
 (Br (decide (give < 8))
 (∃ (n : Int),
 Heap.cell h b (o + 1 + Int.toNat give) = some (int IntKind.i64 n) ∧
 Br (decide (n < given)) (Ret h K (int IntKind.i64 10))
 (withAddr l fun (b o : Nat) =>
 ∃ (a : Option Addr),
 ∃ (n : Nat),
 ∃ (m : Nat),
 Heap.cell h b o = some (slice a n m) ∧
 0 ≤ member ∧
 member < (↑n : Int) ∧
 withAddr a fun (b o : Nat) =>
 Br (decide (0 ≤ get))
 (Br (decide (get < 8))
 (∃ (n : Int),
 Heap.cell h b (o + Int.toNat member * 8 + Int.toNat get) = some (int IntKind.i64 n) ∧
 CallA Try.prog fn_money_Add [int IntKind.i64 n, int IntKind.i64 got] h fun (v : Value) (h : Heap) =>
 ∃ (n : Int),
 ∃ (n_1 : Int),
 v = tuple #[int IntKind.i64 n, int IntKind.i64 n_1] ∧
 withAddr l fun (b o : Nat) =>
 Br (decide (0 ≤ get))
 (Br (decide (get < 8))
 (∃ (n_2 : Int),
 Heap.cell h b (o + 1 + Int.toNat get) = some (int IntKind.i64 n_2) ∧
 CallA Try.prog fn_money_Add [int IntKind.i64 n_2, int IntKind.i64 got] h fun (v : Value) (h : Heap) =>
 ∃ (n_3 : Int),
 ∃ (n_4 : Int),
 v = tuple #[int IntKind.i64 n_3, int IntKind.i64 n_4] ∧
 withAddr l fun (b o : Nat) =>
 ∃ (a : Option Addr),
 ∃ (n_5 : Nat),
 ∃ (m : Nat),
 Heap.cell h b o = some (slice a n_5 m) ∧
 0 ≤ member ∧
 member < (↑n_5 : Int) ∧
 withAddr a fun (b o : Nat) =>
 Br (decide (0 ≤ give))
 (Br (decide (give < 8))
 (∃ (n_6 : Int),
 Heap.cell h b (o + Int.toNat member * 8 + Int.toNat give) = some (int IntKind.i64 n_6) ∧
 CallA Try.prog fn_money_Sub [int IntKind.i64 n_6, int IntKind.i64 given] h fun (v : Value) (h : Heap) =>
 ∃ (n_7 : Int),
 ∃ (n_8 : Int),
 v = tuple #[int IntKind.i64 n_7, int IntKind.i64 n_8] ∧
 Br (n_1 != 0) (Ret h K (int IntKind.i64 3))
 (Br (n_4 != 0) (Ret h K (int IntKind.i64 3))
 (Br (n_8 != 0) (Ret h K (int IntKind.i64 3))
 (withAddr l fun (b o : Nat) =>
 ∃ (a : Option Addr),
 ∃ (n_9 : Nat),
 ∃ (m : Nat),
 Heap.cell h b o = some (slice a n_9 m) ∧
 withAddr l fun (b o : Nat) =>
 ∃ (a_1 : Option Addr),
 ∃ (n_10 : Nat),
 ∃ (m : Nat),
 Heap.cell h b o = some (slice a_1 n_10 m) ∧
 0 ≤ member ∧
 member < (↑n_9 : Int) ∧
 withAddr a fun (b o : Nat) =>
 Br (decide (0 ≤ get))
 (Br (decide (get < 8))
 (withAddr l fun (b_1 o_1 : Nat) =>
 0 ≤ member ∧
 member < (↑n_10 : Int) ∧
 withAddr a_1 fun (b_2 o_2 : Nat) =>
 Heap.canSt h b (o + Int.toNat member * 8 + Int.toNat get)
 1 ∧
 Br (decide (0 ≤ get))
 (Br (decide (get < 8))
 (Heap.canSt
 (Heap.setN h b
 (o + Int.toNat member * 8 + Int.toNat get)
 [int IntKind.i64 n])
 b_1 (o_1 + 1 + Int.toNat get) 1 ∧
 Br (decide (0 ≤ give))
 (Br (decide (give < 8))
 (Heap.canSt
 (Heap.setN
 (Heap.setN h b
 (o + Int.toNat member * 8 +
 Int.toNat get)
 [int IntKind.i64 n])
 b_1 (o_1 + 1 + Int.toNat get)
 [int IntKind.i64 n_3])
 b_2
 (o_2 + Int.toNat member * 8 +
 Int.toNat give)
 1 ∧
 withAddr l fun (b_3 o_3 : Nat) =>
 Br (decide (0 ≤ give))
 (Br (decide (give < 8))
 (∃ (n_11 : Int),
 Heap.cell
 (Heap.setN
 (Heap.setN
 (Heap.setN h b
 (o +
 Int.toNat member * 8 +
 Int.toNat get)
 [int IntKind.i64 n])
 b_1
 (o_1 + 1 + Int.toNat get)
 [int IntKind.i64 n_3])
 b_2
 (o_2 + Int.toNat member * 8 +
 Int.toNat give)
 [int IntKind.i64 n_7])
 b_3 (o_3 + 1 + Int.toNat give) =
 some (int IntKind.i64 n_11) ∧
 withAddr l fun (b_4 o_4 : Nat) =>
 Br (decide (0 ≤ give))
 (Br (decide (give < 8))
 (Heap.canSt
 (Heap.setN
 (Heap.setN
 (Heap.setN h b
 (o +
 Int.toNat
 member *
 8 +
 Int.toNat get)
 [int IntKind.i64 n])
 b_1
 (o_1 + 1 +
 Int.toNat get)
 [int IntKind.i64 n_3])
 b_2
 (o_2 +
 Int.toNat member *
 8 +
 Int.toNat give)
 [int IntKind.i64 n_7])
 b_4
 (o_4 + 1 + Int.toNat give)
 1 ∧
 Ret
 (Heap.setN
 (Heap.setN
 (Heap.setN
 (Heap.setN h b
 (o +
 Int.toNat
 member *
 8 +
 Int.toNat get)
 [int IntKind.i64
 n])
 b_1
 (o_1 + 1 +
 Int.toNat get)
 [int IntKind.i64
 n_3])
 b_2
 (o_2 +
 Int.toNat member *
 8 +
 Int.toNat give)
 [int IntKind.i64 n_7])
 b_4
 (o_4 + 1 +
 Int.toNat give)
 [int IntKind.i64
 (IntKind.wrap
 IntKind.i64
 (n_11 - given))])
 K (int IntKind.i64 0))
 False)
 False)
 False)
 False)
 False)
 False)
 False)
 False)
 False)
 False))))
 False)
 False)
 False)
 False)
 False)
 False))
 False)
 False)))))
theorem F_pledger_Ledger_Swap (l : Option Addr) (member : Int) (get : Int) (give : Int) (got : Int) (given : Int) (h : Heap) (K : Value → Heap → Prop) (k : F_pledger_Ledger_SwapT l member get give got given h K) : CallA Try.prog fn_pledger_Ledger_Swap [pointer l, int IntKind.i64 member, int IntKind.i64 get, int IntKind.i64 give, int IntKind.i64 got, int IntKind.i64 given] h K :=
 CallA.of_ev (cs := []) Try.func88 (by kernel_rfl) (fun _ _ => Try.call88 _ _) mixed (by kernel_rfl) (by kernel_rfl) k
def L_ledger_lay_0 (s : Option Addr) (n : Int) (i : Int) (h : Heap) (K : Value → Heap → Prop) : Prop :=
 LoopAt Try.prog Try.f92 92 (loopK Try.f92 0) (sp 16 [(0, pointer s), (1, int IntKind.i64 n), (4, int IntKind.i64 i)]) h K
def L_ledger_lay_0T (s : Option Addr) (n : Int) (i : Int) (h : Heap) (K : Value → Heap → Prop) : Prop :=
 Br (decide (i ≥ 0))
 (Br (decide (0 ≤ IntKind.wrap IntKind.i64 (8 * i)))
 (CallA Try.prog fn_pstrings_Builder_WriteByte [pointer s, int IntKind.u8 (IntKind.wrap IntKind.u8 (Int.fdiv n (2 ^ min (Int.toNat (IntKind.wrap IntKind.i64 (8 * i))) 64)))] h fun (v : Value) (h : Heap) =>
 v = nilIface ∧ L_ledger_lay_0 s n (IntKind.wrap IntKind.i64 (i - 1)) h K)
 False)
 (Ret h K (tuple #[]))
theorem L_ledger_lay_0r (s : Option Addr) (n : Int) (i : Int) (h : Heap) (K : Value → Heap → Prop) (k : L_ledger_lay_0T s n i h K) : L_ledger_lay_0 s n i h K :=
 LoopAt.of_ev (cs := []) Try.func92 mixed (fun junk => by kernel_rfl) k
def F_ledger_layT (s : Option Addr) (n : Int) (h : Heap) (K : Value → Heap → Prop) : Prop :=
 L_ledger_lay_0 s n 7 h K
theorem F_ledger_lay (s : Option Addr) (n : Int) (h : Heap) (K : Value → Heap → Prop) (k : F_ledger_layT s n h K) : CallA Try.prog fn_ledger_lay [pointer s, int IntKind.i64 n] h K :=
 CallA.of_ev (cs := []) Try.func92 (by kernel_rfl) (fun _ _ => Try.call92 _ _) mixed (by kernel_rfl) (by kernel_rfl) k
def L_pledger_Ledger_Text_0 (l : Option Addr) (s : Nat) (t30 : Option Addr) (t30n : Nat) (t30c : Nat) (t31 : Int) (t32 : Int) (h : Heap) (K : Value → Heap → Prop) : Prop :=
 LoopAt Try.prog Try.f53 53 (loopK Try.f53 0) (sp 51 [(0, pointer l), (3, pointer (some { block := s, off := 0 })), (30, slice t30 t30n t30c), (31, int IntKind.i64 t31), (32, int IntKind.i64 t32)]) h K
def L_pledger_Ledger_Text_1 (l : Option Addr) (s : Nat) (t30 : Option Addr) (t30n : Nat) (t30c : Nat) (t31 : Int) (t32 : Int) (t40 : Option Addr) (t40n : Nat) (t40c : Nat) (t41 : Int) (t42 : Int) (h : Heap) (K : Value → Heap → Prop) : Prop :=
 LoopAt Try.prog Try.f53 53 (loopK Try.f53 1) (sp 51 [(0, pointer l), (3, pointer (some { block := s, off := 0 })), (30, slice t30 t30n t30c), (31, int IntKind.i64 t31), (32, int IntKind.i64 t32), (40, slice t40 t40n t40c), (41, int IntKind.i64 t41),
 (42, int IntKind.i64 t42)]) h K
def L_pledger_Ledger_Text_0T (l : Option Addr) (s : Nat) (t30 : Option Addr) (t30n : Nat) (t30c : Nat) (t31 : Int) (t32 : Int) (h : Heap) (K : Value → Heap → Prop) : Prop :=
 Br (decide (t32 < t31))
 (0 ≤ t32 ∧
 t32 < (↑t30n : Int) ∧
 withAddr t30 fun (b o : Nat) =>
 ∃ (n : Int),
 Heap.cell h b (o + Int.toNat t32 * 8) = some (int IntKind.i64 n) ∧
 ∃ (n_1 : Int),
 Heap.cell h b (o + Int.toNat t32 * 8 + 1) = some (int IntKind.i64 n_1) ∧
 ∃ (n_2 : Int),
 Heap.cell h b (o + Int.toNat t32 * 8 + 2) = some (int IntKind.i64 n_2) ∧
 ∃ (n_3 : Int),
 Heap.cell h b (o + Int.toNat t32 * 8 + 3) = some (int IntKind.i64 n_3) ∧
 ∃ (n_4 : Int),
 Heap.cell h b (o + Int.toNat t32 * 8 + 4) = some (int IntKind.i64 n_4) ∧
 ∃ (n_5 : Int),
 Heap.cell h b (o + Int.toNat t32 * 8 + 5) = some (int IntKind.i64 n_5) ∧
 ∃ (n_6 : Int),
 Heap.cell h b (o + Int.toNat t32 * 8 + 6) = some (int IntKind.i64 n_6) ∧
 ∃ (n_7 : Int),
 Heap.cell h b (o + Int.toNat t32 * 8 + 7) = some (int IntKind.i64 n_7) ∧
 newB h [int IntKind.i64 0, int IntKind.i64 0, int IntKind.i64 0, int IntKind.i64 0, int IntKind.i64 0, int IntKind.i64 0, int IntKind.i64 0, int IntKind.i64 0] 149
 fun (r : Nat) (h : Heap) =>
 Heap.canSt h r 0 8 ∧
 withAddr l fun (b o : Nat) =>
 ∃ (n_8 : Int),
 Heap.cell
 (Heap.setN h r 0
 [int IntKind.i64 n, int IntKind.i64 n_1, int IntKind.i64 n_2, int IntKind.i64 n_3, int IntKind.i64 n_4, int IntKind.i64 n_5, int IntKind.i64 n_6,
 int IntKind.i64 n_7])
 b (o + 9) =
 some (int IntKind.i64 n_8) ∧
 0 ≤ n_8 ∧
 n_8 ≤ 8 ∧
 L_pledger_Ledger_Text_1 l s t30 t30n t30c t31 t32 (slAddr (some { block := r, off := 0 }) 0 8 1) (Int.toNat n_8 - 0) 8 (↑(Int.toNat n_8 - 0) : Int) 0
 (Heap.setN h r 0
 [int IntKind.i64 n, int IntKind.i64 n_1, int IntKind.i64 n_2, int IntKind.i64 n_3, int IntKind.i64 n_4, int IntKind.i64 n_5, int IntKind.i64 n_6,
 int IntKind.i64 n_7])
 K)
 (CallA Try.prog fn_pstrings_Builder_String [pointer (some { block := s, off := 0 })] h fun (v : Value) (h : Heap) => ∃ (s : ByteArray), v = string s ∧ Ret h K (string s))
theorem L_pledger_Ledger_Text_0r (l : Option Addr) (s : Nat) (t30 : Option Addr) (t30n : Nat) (t30c : Nat) (t31 : Int) (t32 : Int) (h : Heap) (K : Value → Heap → Prop) (k : L_pledger_Ledger_Text_0T l s t30 t30n t30c t31 t32 h K) : L_pledger_Ledger_Text_0 l s t30 t30n t30c t31 t32 h K :=
 LoopAt.of_ev (cs := []) Try.func53 mixed (fun junk => by kernel_rfl) k
def L_pledger_Ledger_Text_1T (l : Option Addr) (s : Nat) (t30 : Option Addr) (t30n : Nat) (t30c : Nat) (t31 : Int) (t32 : Int) (t40 : Option Addr) (t40n : Nat) (t40c : Nat) (t41 : Int) (t42 : Int) (h : Heap) (K : Value → Heap → Prop) : Prop :=
 Br (decide (t42 < t41))
 (0 ≤ t42 ∧
 t42 < (↑t40n : Int) ∧
 withAddr t40 fun (b o : Nat) =>
 ∃ (n : Int),
 Heap.cell h b (o + Int.toNat t42) = some (int IntKind.i64 n) ∧
 CallA Try.prog fn_ledger_lay [pointer (some { block := s, off := 0 }), int IntKind.i64 n] h fun (v : Value) (h : Heap) =>
 v = tuple #[] ∧ L_pledger_Ledger_Text_1 l s t30 t30n t30c t31 t32 t40 t40n t40c t41 (IntKind.wrap IntKind.i64 (t42 + 1)) h K)
 (L_pledger_Ledger_Text_0 l s t30 t30n t30c t31 (IntKind.wrap IntKind.i64 (t32 + 1)) h K)
theorem L_pledger_Ledger_Text_1r (l : Option Addr) (s : Nat) (t30 : Option Addr) (t30n : Nat) (t30c : Nat) (t31 : Int) (t32 : Int) (t40 : Option Addr) (t40n : Nat) (t40c : Nat) (t41 : Int) (t42 : Int) (h : Heap) (K : Value → Heap → Prop) (k : L_pledger_Ledger_Text_1T l s t30 t30n t30c t31 t32 t40 t40n t40c t41 t42 h K) : L_pledger_Ledger_Text_1 l s t30 t30n t30c t31 t32 t40 t40n t40c t41 t42 h K :=
 LoopAt.of_ev (cs := []) Try.func53 mixed (fun junk => by kernel_rfl) k
def F_pledger_Ledger_TextT (l : Option Addr) (h : Heap) (K : Value → Heap → Prop) : Prop :=
 newB h [pointer none, slice none 0 0] 157 fun (r : Nat) (h : Heap) =>
 withAddr l fun (b o : Nat) =>
 ∃ (a : Option Addr),
 ∃ (n : Nat),
 ∃ (m : Nat),
 Heap.cell h b o = some (slice a n m) ∧
 CallA Try.prog fn_pstrings_Builder_WriteByte [pointer (some { block := r, off := 0 }), int IntKind.u8 (IntKind.wrap IntKind.u8 (↑n : Int))] h fun (v : Value) (h : Heap) =>
 v = nilIface ∧
 withAddr l fun (b o : Nat) =>
 ∃ (n : Int),
 Heap.cell h b (o + 9) = some (int IntKind.i64 n) ∧
 CallA Try.prog fn_pstrings_Builder_WriteByte [pointer (some { block := r, off := 0 }), int IntKind.u8 (IntKind.wrap IntKind.u8 n)] h fun (v : Value) (h : Heap) =>
 v = nilIface ∧
 withAddr l fun (b o : Nat) =>
 ∃ (n : Int),
 Heap.cell h b (o + 1) = some (int IntKind.i64 n) ∧
 ∃ (n_1 : Int),
 Heap.cell h b (o + 1 + 1) = some (int IntKind.i64 n_1) ∧
 ∃ (n_2 : Int),
 Heap.cell h b (o + 1 + 2) = some (int IntKind.i64 n_2) ∧
 ∃ (n_3 : Int),
 Heap.cell h b (o + 1 + 3) = some (int IntKind.i64 n_3) ∧
 ∃ (n_4 : Int),
 Heap.cell h b (o + 1 + 4) = some (int IntKind.i64 n_4) ∧
 ∃ (n_5 : Int),
 Heap.cell h b (o + 1 + 5) = some (int IntKind.i64 n_5) ∧
 ∃ (n_6 : Int),
 Heap.cell h b (o + 1 + 6) = some (int IntKind.i64 n_6) ∧
 ∃ (n_7 : Int),
 Heap.cell h b (o + 1 + 7) = some (int IntKind.i64 n_7) ∧
 withAddr l fun (b o : Nat) =>
 ∃ (a : Option Addr),
 ∃ (n_8 : Nat),
 ∃ (m : Nat),
 Heap.cell h b o = some (slice a n_8 m) ∧
 newB h
 [int IntKind.i64 n, int IntKind.i64 n_1, int IntKind.i64 n_2, int IntKind.i64 n_3, int IntKind.i64 n_4, int IntKind.i64 n_5, int IntKind.i64 n_6,
 int IntKind.i64 n_7]
 149 fun (r_1 : Nat) (h : Heap) =>
 AppA
 [int IntKind.i64 0, int IntKind.i64 0, int IntKind.i64 0, int IntKind.i64 0, int IntKind.i64 0, int IntKind.i64 0, int IntKind.i64 0,
 int IntKind.i64 0]
 149 h (some { block := r_1, off := 0 }) 1 1 n_8 a fun (ap : Option Addr) (cp : Nat) (h : Heap) =>
 L_pledger_Ledger_Text_0 l r ap (1 + n_8) cp (↑(1 + n_8) : Int) 0 h K
theorem F_pledger_Ledger_Text (l : Option Addr) (h : Heap) (K : Value → Heap → Prop) (k : F_pledger_Ledger_TextT l h K) : CallA Try.prog fn_pledger_Ledger_Text [pointer l] h K :=
 CallA.of_ev (cs := []) Try.func53 (by kernel_rfl) (fun _ _ => Try.call53 _ _) mixed (by kernel_rfl) (by kernel_rfl) k
def L_ledger_Read_0 (l : Nat) (take_0 : Nat) (take_1 : Nat) (t60 : Int) (t61 : Int) (h : Heap) (K : Value → Heap → Prop) : Prop :=
 LoopAt Try.prog Try.f59 59 (loopK Try.f59 0) (sp 119 [(4, pointer (some { block := l, off := 0 })), (7, func (Fn.func fn_ledger_Read_1) #[] #[pointer (some { block := take_0, off := 0 }), pointer (some { block := take_1, off := 0 })]), (60, int IntKind.i64 t60),
 (61, int IntKind.i64 t61)]) h K
def L_ledger_Read_1 (l : Nat) (sums : Nat) (t76 : Int) (t77 : Int) (h : Heap) (K : Value → Heap → Prop) : Prop :=
 LoopAt Try.prog Try.f59 59 (loopK Try.f59 1) (sp 119 [(4, pointer (some { block := l, off := 0 })), (9, pointer (some { block := sums, off := 0 })), (76, int IntKind.i64 t76), (77, int IntKind.i64 t77)]) h K
def L_ledger_Read_2 (l : Nat) (sums : Nat) (cur : Int) (of : Option Addr) (ofn : Nat) (ofc : Nat) (t76 : Int) (t77 : Int) (t84 : Int) (t85 : Int) (h : Heap) (K : Value → Heap → Prop) : Prop :=
 LoopAt Try.prog Try.f59 59 (loopK Try.f59 2) (sp 119 [(4, pointer (some { block := l, off := 0 })), (9, pointer (some { block := sums, off := 0 })), (10, int IntKind.i64 cur), (11, slice of ofn ofc), (76, int IntKind.i64 t76), (77, int IntKind.i64 t77),
 (84, int IntKind.i64 t84), (85, int IntKind.i64 t85)]) h K
def L_ledger_Read_0T (l : Nat) (take_0 : Nat) (take_1 : Nat) (t60 : Int) (t61 : Int) (h : Heap) (K : Value → Heap → Prop) : Prop :=
 Br (decide (t61 < t60))
 (∃ (a : Option Addr),
 Heap.cell h l 0 = some (pointer a) ∧
 withAddr a fun (b o : Nat) =>
 ∃ (a : Option Addr),
 ∃ (n : Nat),
 ∃ (m : Nat),
 Heap.cell h b o = some (slice a n m) ∧
 0 ≤ t61 ∧
 t61 < (↑n : Int) ∧
 withAddr a fun (b o : Nat) =>
 CallA Try.prog fn_ledger_Read_1 [pointer (some { block := b, off := o + Int.toNat t61 * 8 }), pointer (some { block := take_0, off := 0 }), pointer (some { block := take_1, off := 0 })] h
 fun (v : Value) (h : Heap) => v = tuple #[] ∧ L_ledger_Read_0 l take_0 take_1 t60 (IntKind.wrap IntKind.i64 (t61 + 1)) h K)
 (newB h [int IntKind.i64 0, int IntKind.i64 0, int IntKind.i64 0, int IntKind.i64 0, int IntKind.i64 0, int IntKind.i64 0, int IntKind.i64 0, int IntKind.i64 0] 149 fun (r : Nat) (h : Heap) =>
 ∃ (a : Option Addr), Heap.cell h l 0 = some (pointer a) ∧ withAddr a fun (b o : Nat) => ∃ (n : Int), Heap.cell h b (o + 9) = some (int IntKind.i64 n) ∧ L_ledger_Read_1 l r n 0 h K)
theorem L_ledger_Read_0r (l : Nat) (take_0 : Nat) (take_1 : Nat) (t60 : Int) (t61 : Int) (h : Heap) (K : Value → Heap → Prop) (k : L_ledger_Read_0T l take_0 take_1 t60 t61 h K) : L_ledger_Read_0 l take_0 take_1 t60 t61 h K :=
 LoopAt.of_ev (cs := []) Try.func59 mixed (fun junk => by kernel_rfl) k
def L_ledger_Read_1T (l : Nat) (sums : Nat) (t76 : Int) (t77 : Int) (h : Heap) (K : Value → Heap → Prop) : Prop :=
 Br (decide (t77 < t76))
 (∃ (a : Option Addr),
 Heap.cell h l 0 = some (pointer a) ∧ withAddr a fun (b o : Nat) => ∃ (a : Option Addr), ∃ (n : Nat), ∃ (m : Nat), Heap.cell h b o = some (slice a n m) ∧ L_ledger_Read_2 l sums t77 none 0 0 t76 t77 (↑n : Int) 0 h K)
 (∃ (n : Int),
 Heap.cell h sums 0 = some (int IntKind.i64 n) ∧
 ∃ (n_1 : Int),
 Heap.cell h sums 1 = some (int IntKind.i64 n_1) ∧
 ∃ (n_2 : Int),
 Heap.cell h sums 2 = some (int IntKind.i64 n_2) ∧
 ∃ (n_3 : Int),
 Heap.cell h sums 3 = some (int IntKind.i64 n_3) ∧
 ∃ (n_4 : Int),
 Heap.cell h sums 4 = some (int IntKind.i64 n_4) ∧
 ∃ (n_5 : Int),
 Heap.cell h sums 5 = some (int IntKind.i64 n_5) ∧
 ∃ (n_6 : Int),
 Heap.cell h sums 6 = some (int IntKind.i64 n_6) ∧
 ∃ (n_7 : Int),
 Heap.cell h sums 7 = some (int IntKind.i64 n_7) ∧
 ∃ (a : Option Addr),
 Heap.cell h l 0 = some (pointer a) ∧
 withAddr a fun (b o : Nat) =>
 ∃ (n_8 : Int),
 Heap.cell h b (o + 1) = some (int IntKind.i64 n_8) ∧
 ∃ (n_9 : Int),
 Heap.cell h b (o + 1 + 1) = some (int IntKind.i64 n_9) ∧
 ∃ (n_10 : Int),
 Heap.cell h b (o + 1 + 2) = some (int IntKind.i64 n_10) ∧
 ∃ (n_11 : Int),
 Heap.cell h b (o + 1 + 3) = some (int IntKind.i64 n_11) ∧
 ∃ (n_12 : Int),
 Heap.cell h b (o + 1 + 4) = some (int IntKind.i64 n_12) ∧
 ∃ (n_13 : Int),
 Heap.cell h b (o + 1 + 5) = some (int IntKind.i64 n_13) ∧
 ∃ (n_14 : Int),
 Heap.cell h b (o + 1 + 6) = some (int IntKind.i64 n_14) ∧
 ∃ (n_15 : Int),
 Heap.cell h b (o + 1 + 7) = some (int IntKind.i64 n_15) ∧
 Br (!(n == n_8 && (n_1 == n_9 && (n_2 == n_10 && (n_3 == n_11 && (n_4 == n_12 && (n_5 == n_13 && (n_6 == n_14 && (n_7 == n_15 && true)))))))))
 (Ret h K (tuple #[pointer none, int IntKind.i64 8]))
 (∃ (a : Option Addr), Heap.cell h l 0 = some (pointer a) ∧ Ret h K (tuple #[pointer a, int IntKind.i64 0])))
theorem L_ledger_Read_1r (l : Nat) (sums : Nat) (t76 : Int) (t77 : Int) (h : Heap) (K : Value → Heap → Prop) (k : L_ledger_Read_1T l sums t76 t77 h K) : L_ledger_Read_1 l sums t76 t77 h K :=
 LoopAt.of_ev (cs := []) Try.func59 mixed (fun junk => by kernel_rfl) k
def L_ledger_Read_2T (l : Nat) (sums : Nat) (cur : Int) (of : Option Addr) (ofn : Nat) (ofc : Nat) (t76 : Int) (t77 : Int) (t84 : Int) (t85 : Int) (h : Heap) (K : Value → Heap → Prop) : Prop :=
 Br (decide (t85 < t84))
 (∃ (a : Option Addr),
 Heap.cell h l 0 = some (pointer a) ∧
 withAddr a fun (b o : Nat) =>
 ∃ (a : Option Addr),
 ∃ (n : Nat),
 ∃ (m : Nat),
 Heap.cell h b o = some (slice a n m) ∧
 0 ≤ t85 ∧
 t85 < (↑n : Int) ∧
 withAddr a fun (b o : Nat) =>
 Br (decide (0 ≤ cur))
 (Br (decide (cur < 8))
 (∃ (n : Int),
 Heap.cell h b (o + Int.toNat t85 * 8 + Int.toNat cur) = some (int IntKind.i64 n) ∧
 newB h [int IntKind.i64 n] 2 fun (r : Nat) (h : Heap) =>
 AppA [int IntKind.i64 0] 2 h of ofn ofc 1 (some { block := r, off := 0 }) fun (ap : Option Addr) (cp : Nat) (h : Heap) =>
 L_ledger_Read_2 l sums cur ap (ofn + 1) cp t76 t77 t84 (IntKind.wrap IntKind.i64 (t85 + 1)) h K)
 False)
 False)
 (CallA Try.prog fn_money_Sum [slice of ofn ofc] h fun (v : Value) (h : Heap) =>
 ∃ (n : Int),
 ∃ (n_1 : Int),
 v = tuple #[int IntKind.i64 n, int IntKind.i64 n_1] ∧
 Br (n_1 != 0) (Ret h K (tuple #[pointer none, int IntKind.i64 8]))
 (Br (decide (0 ≤ cur))
 (Br (decide (cur < 8)) (Heap.canSt h sums (0 + Int.toNat cur) 1 ∧ L_ledger_Read_1 l sums t76 (IntKind.wrap IntKind.i64 (t77 + 1)) (Heap.setN h sums (0 + Int.toNat cur) [int IntKind.i64 n]) K) False) False))
theorem L_ledger_Read_2r (l : Nat) (sums : Nat) (cur : Int) (of : Option Addr) (ofn : Nat) (ofc : Nat) (t76 : Int) (t77 : Int) (t84 : Int) (t85 : Int) (h : Heap) (K : Value → Heap → Prop) (k : L_ledger_Read_2T l sums cur of ofn ofc t76 t77 t84 t85 h K) : L_ledger_Read_2 l sums cur of ofn ofc t76 t77 t84 t85 h K :=
 LoopAt.of_ev (cs := []) Try.func59 mixed (fun junk => by kernel_rfl) k
def F_ledger_ReadT (text : ByteArray) (h : Heap) (K : Value → Heap → Prop) : Prop :=
 Br (decide ((↑(ByteArray.size text) : Int) < 2)) (Ret h K (tuple #[pointer none, int IntKind.i64 2]))
 ((0 : Int) ≤ 0 ∧
 ∃ (c : UInt8),
 text[0]? = some c ∧
 (0 : Int) ≤ 1 ∧
 ∃ (c_1 : UInt8),
 text[1]? = some c_1 ∧
 CallA Try.prog fn_ledger_New [int IntKind.i64 (IntKind.wrap IntKind.i64 (↑(UInt8.toNat c) : Int)), int IntKind.i64 (IntKind.wrap IntKind.i64 (↑(UInt8.toNat c_1) : Int))] h fun (v : Value) (h : Heap) =>
 ∃ (a : Option Addr),
 ∃ (n : Int),
 v = tuple #[pointer a, int IntKind.i64 n] ∧
 newB h [pointer none] 82 fun (r : Nat) (h : Heap) =>
 Heap.canSt h r 0 1 ∧
 Br (n != 0) (Ret (Heap.setN h r 0 [pointer a]) K (tuple #[pointer none, int IntKind.i64 2]))
 (∃ (a_1 : Option Addr),
 Heap.cell (Heap.setN h r 0 [pointer a]) r 0 = some (pointer a_1) ∧
 withAddr a_1 fun (b o : Nat) =>
 ∃ (n : Int),
 Heap.cell (Heap.setN h r 0 [pointer a]) b (o + 9) = some (int IntKind.i64 n) ∧
 ∃ (a_2 : Option Addr),
 Heap.cell (Heap.setN h r 0 [pointer a]) r 0 = some (pointer a_2) ∧
 withAddr a_2 fun (b o : Nat) =>
 ∃ (a_3 : Option Addr),
 ∃ (n_1 : Nat),
 ∃ (m : Nat),
 Heap.cell (Heap.setN h r 0 [pointer a]) b o = some (slice a_3 n_1 m) ∧
 Br
 ((↑(ByteArray.size text) : Int) !=
 IntKind.wrap IntKind.i64 (2 + IntKind.wrap IntKind.i64 (IntKind.wrap IntKind.i64 (8 * n) * IntKind.wrap IntKind.i64 ((↑n_1 : Int) + 1))))
 (Ret (Heap.setN h r 0 [pointer a]) K (tuple #[pointer none, int IntKind.i64 2]))
 ((0 : Int) ≤ 2 ∧
 2 ≤ (↑(ByteArray.size text) : Int) ∧
 newB (Heap.setN h r 0 [pointer a]) [string { data := #[] }] 9 fun (r_1 : Nat) (h : Heap) =>
 Heap.canSt h r_1 0 1 ∧
 ∃ (a : Option Addr),
 Heap.cell (Heap.setN h r_1 0 [string (ByteArray.extract text 2 (ByteArray.size text))]) r 0 = some (pointer a) ∧
 withAddr a fun (b o : Nat) =>
 CallA Try.prog 96
 [pointer (some { block := b, off := o + 1 }), pointer (some { block := r, off := 0 }), pointer (some { block := r_1, off := 0 })]
 (Heap.setN h r_1 0 [string (ByteArray.extract text 2 (ByteArray.size text))]) fun (v : Value) (h : Heap) =>
 v = tuple #[] ∧
 ∃ (a : Option Addr),
 Heap.cell h r 0 = some (pointer a) ∧
 withAddr a fun (b o : Nat) =>
 ∃ (a : Option Addr), ∃ (n : Nat), ∃ (m : Nat), Heap.cell h b o = some (slice a n m) ∧ L_ledger_Read_0 r r r_1 (↑n : Int) 0 h K)))
theorem F_ledger_Read (text : ByteArray) (h : Heap) (K : Value → Heap → Prop) (k : F_ledger_ReadT text h K) : CallA Try.prog fn_ledger_Read [string text] h K :=
 CallA.of_ev (cs := []) Try.func59 (by kernel_rfl) (fun _ _ => Try.call59 _ _) mixed (by kernel_rfl) (by kernel_rfl) k
def L_ledger_Read_1_0 (r : Option Addr) (t2 : Nat) (t11 : Int) (t12 : Int) (h : Heap) (K : Value → Heap → Prop) : Prop :=
 LoopAt Try.prog Try.f96 96 (loopK Try.f96 0) (sp 37 [(0, pointer r), (2, pointer (some { block := t2, off := 0 })), (11, int IntKind.i64 t11), (12, int IntKind.i64 t12)]) h K
def L_ledger_Read_1_1 (r : Option Addr) (t2 : Nat) (cur : Int) (n : Int) (t11 : Int) (t12 : Int) (t17 : Option Addr) (t17n : Nat) (t17c : Nat) (t18 : Int) (t19 : Int) (h : Heap) (K : Value → Heap → Prop) : Prop :=
 LoopAt Try.prog Try.f96 96 (loopK Try.f96 1) (sp 37 [(0, pointer r), (2, pointer (some { block := t2, off := 0 })), (4, int IntKind.i64 cur), (5, int IntKind.i64 n), (11, int IntKind.i64 t11), (12, int IntKind.i64 t12), (17, slice t17 t17n t17c),
 (18, int IntKind.i64 t18), (19, int IntKind.i64 t19)]) h K
def L_ledger_Read_1_0T (r : Option Addr) (t2 : Nat) (t11 : Int) (t12 : Int) (h : Heap) (K : Value → Heap → Prop) : Prop :=
 Br (decide (t12 < t11))
 (∃ (s : ByteArray),
 Heap.cell h t2 0 = some (string s) ∧
 (0 : Int) ≤ 8 ∧
 8 ≤ (↑(ByteArray.size s) : Int) ∧
 BytesA (ByteArray.extract s 0 8) 5 h fun (ap : Option Addr) (cp : Nat) (h : Heap) =>
 L_ledger_Read_1_1 r t2 t12 0 t11 t12 ap (ByteArray.size (ByteArray.extract s 0 8)) cp (↑(ByteArray.size (ByteArray.extract s 0 8)) : Int) 0 h K)
 (Ret h K (tuple #[]))
theorem L_ledger_Read_1_0r (r : Option Addr) (t2 : Nat) (t11 : Int) (t12 : Int) (h : Heap) (K : Value → Heap → Prop) (k : L_ledger_Read_1_0T r t2 t11 t12 h K) : L_ledger_Read_1_0 r t2 t11 t12 h K :=
 LoopAt.of_ev (cs := []) Try.func96 mixed (fun junk => by kernel_rfl) k
def L_ledger_Read_1_1T (r : Option Addr) (t2 : Nat) (cur : Int) (n : Int) (t11 : Int) (t12 : Int) (t17 : Option Addr) (t17n : Nat) (t17c : Nat) (t18 : Int) (t19 : Int) (h : Heap) (K : Value → Heap → Prop) : Prop :=
 Br (decide (t19 < t18))
 (0 ≤ t19 ∧
 t19 < (↑t17n : Int) ∧
 withAddr t17 fun (b o : Nat) =>
 ∃ (n_1 : Int),
 Heap.cell h b (o + Int.toNat t19) = some (int IntKind.u8 n_1) ∧
 L_ledger_Read_1_1 r t2 cur (IntKind.wrap IntKind.i64 (↑(BitVec.toNat (BitVec.ofInt 64 (IntKind.wrap IntKind.i64 (n * 256)) ||| BitVec.ofInt 64 (IntKind.wrap IntKind.i64 n_1))) : Int)) t11 t12 t17 t17n t17c t18
 (IntKind.wrap IntKind.i64 (t19 + 1)) h K)
 (withAddr r fun (b o : Nat) =>
 Br (decide (0 ≤ cur))
 (Br (decide (cur < 8))
 (Heap.canSt h b (o + Int.toNat cur) 1 ∧
 ∃ (s : ByteArray),
 Heap.cell (Heap.setN h b (o + Int.toNat cur) [int IntKind.i64 n]) t2 0 = some (string s) ∧
 (0 : Int) ≤ 8 ∧
 8 ≤ (↑(ByteArray.size s) : Int) ∧
 Heap.canSt (Heap.setN h b (o + Int.toNat cur) [int IntKind.i64 n]) t2 0 1 ∧
 L_ledger_Read_1_0 r t2 t11 (IntKind.wrap IntKind.i64 (t12 + 1)) (Heap.setN (Heap.setN h b (o + Int.toNat cur) [int IntKind.i64 n]) t2 0 [string (ByteArray.extract s 8 (ByteArray.size s))]) K)
 False)
 False)
theorem L_ledger_Read_1_1r (r : Option Addr) (t2 : Nat) (cur : Int) (n : Int) (t11 : Int) (t12 : Int) (t17 : Option Addr) (t17n : Nat) (t17c : Nat) (t18 : Int) (t19 : Int) (h : Heap) (K : Value → Heap → Prop) (k : L_ledger_Read_1_1T r t2 cur n t11 t12 t17 t17n t17c t18 t19 h K) : L_ledger_Read_1_1 r t2 cur n t11 t12 t17 t17n t17c t18 t19 h K :=
 LoopAt.of_ev (cs := []) Try.func96 mixed (fun junk => by kernel_rfl) k
def F_ledger_Read_1T (r : Option Addr) (c0 : Nat) (c1 : Nat) (h : Heap) (K : Value → Heap → Prop) : Prop :=
 ∃ (a : Option Addr), Heap.cell h c0 0 = some (pointer a) ∧ withAddr a fun (b o : Nat) => ∃ (n : Int), Heap.cell h b (o + 9) = some (int IntKind.i64 n) ∧ L_ledger_Read_1_0 r c1 n 0 h K
theorem F_ledger_Read_1 (r : Option Addr) (c0 : Nat) (c1 : Nat) (h : Heap) (K : Value → Heap → Prop) (k : F_ledger_Read_1T r c0 c1 h K) : CallA Try.prog fn_ledger_Read_1 [pointer r, pointer (some { block := c0, off := 0 }), pointer (some { block := c1, off := 0 })] h K :=
 CallA.of_ev (cs := []) Try.func96 (by kernel_rfl) (fun _ _ => Try.call96 _ _) mixed (by kernel_rfl) (by kernel_rfl) k
end Go.Proofs.Ytkcogdmddhkldaa
