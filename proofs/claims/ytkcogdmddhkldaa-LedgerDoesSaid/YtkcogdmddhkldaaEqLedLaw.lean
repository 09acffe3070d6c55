import Derived.Test.YtkcogdmddhkldaaEqN
namespace Go.Proofs.Ytkcogdmddhkldaa
open Go Go.Sy Go.Value
set_option linter.unusedVariables false
set_option maxRecDepth 100000
def F_law08_awakeT (h : Heap) (K : Value → Heap → Prop) : Prop :=
 CallA Try.prog fn_ledger_New [int IntKind.i64 2, int IntKind.i64 2] h fun (v : Value) (h : Heap) =>
 ∃ (a : Option Addr),
 ∃ (n : Int),
 v = tuple #[pointer a, int IntKind.i64 n] ∧
 CallA Try.prog fn_ledger_New [int IntKind.i64 0, int IntKind.i64 1] h fun (v : Value) (h : Heap) =>
 ∃ (a_1 : Option Addr),
 ∃ (n_1 : Int),
 v = tuple #[pointer a_1, int IntKind.i64 n_1] ∧
 Br (Option.isNone a) (Ret h K (Value.bool false))
 (CallA Try.prog fn_pledger_Ledger_In [pointer a, int IntKind.i64 0, int IntKind.i64 1, int IntKind.i64 50] h fun (v : Value) (h : Heap) =>
 ∃ (n_2 : Int),
 v = int IntKind.i64 n_2 ∧
 newB h [int IntKind.i64 0, int IntKind.i64 1, int IntKind.i64 (-20), int IntKind.i64 1, int IntKind.i64 1, int IntKind.i64 20] 102 fun (r : Nat) (h : Heap) =>
 CallA Try.prog fn_pledger_Ledger_Post [pointer a, slice (some { block := r, off := 0 }) 2 2] h fun (v : Value) (h : Heap) =>
 ∃ (n_3 : Int),
 v = int IntKind.i64 n_3 ∧
 newB h [int IntKind.i64 0, int IntKind.i64 1, int IntKind.i64 (-20)] 102 fun (r : Nat) (h : Heap) =>
 CallA Try.prog fn_pledger_Ledger_Post [pointer a, slice (some { block := r, off := 0 }) 1 1] h fun (v : Value) (h : Heap) =>
 ∃ (n_4 : Int),
 v = int IntKind.i64 n_4 ∧
 CallA Try.prog fn_pledger_Ledger_Out [pointer a, int IntKind.i64 1, int IntKind.i64 1, int IntKind.i64 21] h fun (v : Value) (h : Heap) =>
 ∃ (n_5 : Int),
 v = int IntKind.i64 n_5 ∧
 CallA Try.prog fn_pledger_Ledger_Out [pointer a, int IntKind.i64 1, int IntKind.i64 1, int IntKind.i64 5] h fun (v : Value) (h : Heap) =>
 ∃ (n_6 : Int),
 v = int IntKind.i64 n_6 ∧
 CallA Try.prog fn_pledger_Ledger_Size [pointer a] h fun (v : Value) (h : Heap) =>
 ∃ (n_7 : Int),
 ∃ (n_8 : Int),
 v = tuple #[int IntKind.i64 n_7, int IntKind.i64 n_8] ∧
 CallA Try.prog fn_pledger_Ledger_Text [pointer a] h fun (v : Value) (h : Heap) =>
 ∃ (s : ByteArray),
 v = string s ∧
 CallA Try.prog fn_ledger_Read [string s] h fun (v : Value) (h : Heap) =>
 ∃ (a_2 : Option Addr),
 ∃ (n_9 : Int),
 v = tuple #[pointer a_2, int IntKind.i64 n_9] ∧
 CallA Try.prog fn_ledger_Read [string { data := #[120] }] h fun (v : Value) (h : Heap) =>
 ∃ (a_3 : Option Addr),
 ∃ (n_10 : Int),
 v = tuple #[pointer a_3, int IntKind.i64 n_10] ∧
 Br (n == 0)
 (Br (n_1 == 1)
 (Br (n_2 == 0)
 (Br (n_3 == 0)
 (Br (n_4 == 12)
 (Br (n_5 == 10)
 (Br (n_6 == 0)
 (CallA Try.prog fn_pledger_Ledger_Get [pointer a, int IntKind.i64 0, int IntKind.i64 1] h fun (v : Value) (h : Heap) =>
 ∃ (n : Int),
 v = int IntKind.i64 n ∧
 Br (n == 30)
 (CallA Try.prog fn_pledger_Ledger_Get [pointer a, int IntKind.i64 1, int IntKind.i64 1] h fun (v : Value) (h : Heap) =>
 ∃ (n : Int),
 v = int IntKind.i64 n ∧
 Br (n == 15)
 (CallA Try.prog fn_pledger_Ledger_Nostro [pointer a, int IntKind.i64 1] h fun (v : Value) (h : Heap) =>
 ∃ (n : Int),
 v = int IntKind.i64 n ∧
 Br (n == 45)
 (Br (n_7 == 2)
 (Br (n_8 == 2)
 (Br (!Option.isNone a_2)
 (CallA Try.prog fn_pledger_Ledger_Get [pointer a_2, int IntKind.i64 0, int IntKind.i64 1] h
 fun (v : Value) (h : Heap) =>
 ∃ (n : Int),
 v = int IntKind.i64 n ∧
 Br (n == 30)
 (Br (n_9 == 0) (Ret h K (Value.bool (n_10 == 2))) (Ret h K (Value.bool false)))
 (Ret h K (Value.bool false)))
 (Ret h K (Value.bool false)))
 (Ret h K (Value.bool false)))
 (Ret h K (Value.bool false)))
 (Ret h K (Value.bool false)))
 (Ret h K (Value.bool false)))
 (Ret h K (Value.bool false)))
 (Ret h K (Value.bool false)))
 (Ret h K (Value.bool false)))
 (Ret h K (Value.bool false)))
 (Ret h K (Value.bool false)))
 (Ret h K (Value.bool false)))
 (Ret h K (Value.bool false)))
 (Ret h K (Value.bool false)))
theorem F_law08_awake (h : Heap) (K : Value → Heap → Prop) (k : F_law08_awakeT h K) : CallA Try.prog fn_law08_awake [] h K :=
 CallA.of_ev (cs := []) Try.func44 (by kernel_rfl) (fun _ _ => Try.call44 _ _) mixed (by kernel_rfl) (by kernel_rfl) k
def L_law08_large_0 (l : Option Addr) (ln : Nat) (lc : Nat) (t5 : Int) (t6 : Int) (h : Heap) (K : Value → Heap → Prop) : Prop :=
 LoopAt Try.prog Try.f45 45 (loopK Try.f45 0) (sp 20 [(0, slice l ln lc), (5, int IntKind.i64 t5), (6, int IntKind.i64 t6)]) h K
def L_law08_large_0T (l : Option Addr) (ln : Nat) (lc : Nat) (t5 : Int) (t6 : Int) (h : Heap) (K : Value → Heap → Prop) : Prop :=
 Br (decide (t6 < t5))
 (0 ≤ t6 ∧
 t6 < (↑ln : Int) ∧
 withAddr l fun (b o : Nat) =>
 ∃ (a : Option Addr),
 ∃ (n : Nat), ∃ (m : Nat), Heap.cell h b (o + Int.toNat t6 * 7 + 6) = some (slice a n m) ∧ Br (decide ((↑n : Int) > 30)) (Ret h K (Value.bool true)) (L_law08_large_0 l ln lc t5 (IntKind.wrap IntKind.i64 (t6 + 1)) h K))
 (Ret h K (Value.bool (decide ((↑ln : Int) > 40))))
theorem L_law08_large_0r (l : Option Addr) (ln : Nat) (lc : Nat) (t5 : Int) (t6 : Int) (h : Heap) (K : Value → Heap → Prop) (k : L_law08_large_0T l ln lc t5 t6 h K) : L_law08_large_0 l ln lc t5 t6 h K :=
 LoopAt.of_ev (cs := []) Try.func45 mixed (fun junk => by kernel_rfl) k
def F_law08_largeT (l : Option Addr) (ln : Nat) (lc : Nat) (h : Heap) (K : Value → Heap → Prop) : Prop :=
 L_law08_large_0 l ln lc (↑ln : Int) 0 h K
theorem F_law08_large (l : Option Addr) (ln : Nat) (lc : Nat) (h : Heap) (K : Value → Heap → Prop) (k : F_law08_largeT l ln lc h K) : CallA Try.prog fn_law08_large [slice l ln lc] h K :=
 CallA.of_ev (cs := []) Try.func45 (by kernel_rfl) (fun _ _ => Try.call45 _ _) mixed (by kernel_rfl) (by kernel_rfl) k
def F_law08_doT (l : Option Addr) (x_0 : Int) (x_1 : Int) (x_2 : Int) (x_3 : Int) (x_4 : Int) (x_5 : Int) (x_6 : Option Addr) (x_6n : Nat) (x_6c : Nat) (h : Heap) (K : Value → Heap → Prop) : Prop :=
 newB h [int IntKind.i64 x_0, int IntKind.i64 x_1, int IntKind.i64 x_2, int IntKind.i64 x_3, int IntKind.i64 x_4, int IntKind.i64 x_5, slice x_6 x_6n x_6c] 90 fun (r : Nat) (h : Heap) =>
 ∃ (n : Int),
 Heap.cell h r 0 = some (int IntKind.i64 n) ∧
 Br (n == 0)
 (∃ (n : Int),
 Heap.cell h r 1 = some (int IntKind.i64 n) ∧
 ∃ (n_1 : Int),
 Heap.cell h r 2 = some (int IntKind.i64 n_1) ∧
 ∃ (n_2 : Int),
 Heap.cell h r 4 = some (int IntKind.i64 n_2) ∧
 CallA Try.prog fn_pledger_Ledger_In [pointer l, int IntKind.i64 n, int IntKind.i64 n_1, int IntKind.i64 n_2] h fun (v : Value) (h : Heap) => ∃ (n : Int), v = int IntKind.i64 n ∧ Ret h K (int IntKind.i64 n))
 (Br (n == 1)
 (∃ (n : Int),
 Heap.cell h r 1 = some (int IntKind.i64 n) ∧
 ∃ (n_1 : Int),
 Heap.cell h r 2 = some (int IntKind.i64 n_1) ∧
 ∃ (n_2 : Int),
 Heap.cell h r 4 = some (int IntKind.i64 n_2) ∧
 CallA Try.prog fn_pledger_Ledger_Out [pointer l, int IntKind.i64 n, int IntKind.i64 n_1, int IntKind.i64 n_2] h fun (v : Value) (h : Heap) => ∃ (n : Int), v = int IntKind.i64 n ∧ Ret h K (int IntKind.i64 n))
 (Br (n == 3)
 (∃ (n : Int),
 Heap.cell h r 1 = some (int IntKind.i64 n) ∧
 ∃ (n_1 : Int),
 Heap.cell h r 2 = some (int IntKind.i64 n_1) ∧
 ∃ (n_2 : Int),
 Heap.cell h r 3 = some (int IntKind.i64 n_2) ∧
 ∃ (n_3 : Int),
 Heap.cell h r 4 = some (int IntKind.i64 n_3) ∧
 ∃ (n_4 : Int),
 Heap.cell h r 5 = some (int IntKind.i64 n_4) ∧
 CallA Try.prog fn_pledger_Ledger_Swap [pointer l, int IntKind.i64 n, int IntKind.i64 n_1, int IntKind.i64 n_2, int IntKind.i64 n_3, int IntKind.i64 n_4] h fun (v : Value) (h : Heap) =>
 ∃ (n : Int), v = int IntKind.i64 n ∧ Ret h K (int IntKind.i64 n))
 (∃ (a : Option Addr),
 ∃ (n : Nat),
 ∃ (m : Nat), Heap.cell h r 6 = some (slice a n m) ∧ CallA Try.prog fn_pledger_Ledger_Post [pointer l, slice a n m] h fun (v : Value) (h : Heap) => ∃ (n : Int), v = int IntKind.i64 n ∧ Ret h K (int IntKind.i64 n))))
theorem F_law08_do (l : Option Addr) (x_0 : Int) (x_1 : Int) (x_2 : Int) (x_3 : Int) (x_4 : Int) (x_5 : Int) (x_6 : Option Addr) (x_6n : Nat) (x_6c : Nat) (h : Heap) (K : Value → Heap → Prop) (k : F_law08_doT l x_0 x_1 x_2 x_3 x_4 x_5 x_6 x_6n x_6c h K) : CallA Try.prog fn_law08_do [pointer l, agg #[int IntKind.i64 x_0, int IntKind.i64 x_1, int IntKind.i64 x_2, int IntKind.i64 x_3, int IntKind.i64 x_4, int IntKind.i64 x_5, slice x_6 x_6n x_6c]] h K :=
 CallA.of_ev (cs := []) Try.func48 (by kernel_rfl) (fun _ _ => Try.call48 _ _) mixed (by kernel_rfl) (by kernel_rfl) k
def L_law08_LedgerSums_0 (members : Int) (currencies : Int) (l : Option Addr) (t34 : Option Addr) (t34n : Nat) (t34c : Nat) (t35 : Int) (t36 : Int) (h : Heap) (K : Value → Heap → Prop) : Prop :=
 LoopAt Try.prog Try.f11 11 (loopK Try.f11 0) (sp 108 [(0, int IntKind.i64 members), (1, int IntKind.i64 currencies), (7, pointer l), (34, slice t34 t34n t34c), (35, int IntKind.i64 t35), (36, int IntKind.i64 t36)]) h K
def L_law08_LedgerSums_1 (members : Int) (currencies : Int) (l : Option Addr) (c : Int) (t34 : Option Addr) (t34n : Nat) (t34c : Nat) (t35 : Int) (t36 : Int) (h : Heap) (K : Value → Heap → Prop) : Prop :=
 LoopAt Try.prog Try.f11 11 (loopK Try.f11 1) (sp 108 [(0, int IntKind.i64 members), (1, int IntKind.i64 currencies), (7, pointer l), (13, int IntKind.i64 c), (34, slice t34 t34n t34c), (35, int IntKind.i64 t35), (36, int IntKind.i64 t36)]) h K
def L_law08_LedgerSums_2 (members : Int) (currencies : Int) (l : Option Addr) (c : Int) (of : Option Addr) (ofn : Nat) (ofc : Nat) (m : Int) (t34 : Option Addr) (t34n : Nat) (t34c : Nat) (t35 : Int) (t36 : Int) (h : Heap) (K : Value → Heap → Prop) : Prop :=
 LoopAt Try.prog Try.f11 11 (loopK Try.f11 2) (sp 108 [(0, int IntKind.i64 members), (1, int IntKind.i64 currencies), (7, pointer l), (13, int IntKind.i64 c), (14, slice of ofn ofc), (15, int IntKind.i64 m), (34, slice t34 t34n t34c), (35, int IntKind.i64 t35),
 (36, int IntKind.i64 t36)]) h K
def L_law08_LedgerSums_0T (members : Int) (currencies : Int) (l : Option Addr) (t34 : Option Addr) (t34n : Nat) (t34c : Nat) (t35 : Int) (t36 : Int) (h : Heap) (K : Value → Heap → Prop) : Prop :=
 Br (decide (t36 < t35))
 (0 ≤ t36 ∧
 t36 < (↑t34n : Int) ∧
 withAddr t34 fun (b o : Nat) =>
 ∃ (n : Int),
 Heap.cell h b (o + Int.toNat t36 * 7) = some (int IntKind.i64 n) ∧
 ∃ (n_1 : Int),
 Heap.cell h b (o + Int.toNat t36 * 7 + 1) = some (int IntKind.i64 n_1) ∧
 ∃ (n_2 : Int),
 Heap.cell h b (o + Int.toNat t36 * 7 + 2) = some (int IntKind.i64 n_2) ∧
 ∃ (n_3 : Int),
 Heap.cell h b (o + Int.toNat t36 * 7 + 3) = some (int IntKind.i64 n_3) ∧
 ∃ (n_4 : Int),
 Heap.cell h b (o + Int.toNat t36 * 7 + 4) = some (int IntKind.i64 n_4) ∧
 ∃ (n_5 : Int),
 Heap.cell h b (o + Int.toNat t36 * 7 + 5) = some (int IntKind.i64 n_5) ∧
 ∃ (a : Option Addr),
 ∃ (n_6 : Nat),
 ∃ (m : Nat),
 Heap.cell h b (o + Int.toNat t36 * 7 + 6) = some (slice a n_6 m) ∧
 newB h [int IntKind.i64 0, int IntKind.i64 0, int IntKind.i64 0, int IntKind.i64 0, int IntKind.i64 0, int IntKind.i64 0, slice none 0 0] 90 fun (r : Nat) (h : Heap) =>
 Heap.canSt h r 0 7 ∧
 CallA Try.prog fn_pledger_Ledger_Text [pointer l]
 (Heap.setN h r 0 [int IntKind.i64 n, int IntKind.i64 n_1, int IntKind.i64 n_2, int IntKind.i64 n_3, int IntKind.i64 n_4, int IntKind.i64 n_5, slice a n_6 m])
 fun (v : Value) (h : Heap) =>
 ∃ (s : ByteArray),
 v = string s ∧
 ∃ (n : Int),
 Heap.cell h r 0 = some (int IntKind.i64 n) ∧
 ∃ (n_7 : Int),
 Heap.cell h r 1 = some (int IntKind.i64 n_7) ∧
 ∃ (n_8 : Int),
 Heap.cell h r 2 = some (int IntKind.i64 n_8) ∧
 ∃ (n_9 : Int),
 Heap.cell h r 3 = some (int IntKind.i64 n_9) ∧
 ∃ (n_10 : Int),
 Heap.cell h r 4 = some (int IntKind.i64 n_10) ∧
 ∃ (n_11 : Int),
 Heap.cell h r 5 = some (int IntKind.i64 n_11) ∧
 ∃ (a : Option Addr),
 ∃ (n_12 : Nat),
 ∃ (m : Nat),
 Heap.cell h r 6 = some (slice a n_12 m) ∧
 CallA Try.prog 48
 [pointer l,
 agg
 #[int IntKind.i64 n, int IntKind.i64 n_7, int IntKind.i64 n_8, int IntKind.i64 n_9, int IntKind.i64 n_10, int IntKind.i64 n_11,
 slice a n_12 m]]
 h fun (v : Value) (h : Heap) =>
 ∃ (n : Int),
 v = int IntKind.i64 n ∧
 Br (n != 0)
 (CallA Try.prog fn_pledger_Ledger_Text [pointer l] h fun (v : Value) (h : Heap) =>
 ∃ (s_1 : ByteArray),
 v = string s_1 ∧
 Br (!ByteArray.toList s_1 == ByteArray.toList s) (Ret h K (Value.bool false))
 (L_law08_LedgerSums_1 members currencies l 0 t34 t34n t34c t35 t36 h K))
 (L_law08_LedgerSums_1 members currencies l 0 t34 t34n t34c t35 t36 h K))
 (CallA Try.prog fn_pledger_Ledger_Text [pointer l] h fun (v : Value) (h : Heap) =>
 ∃ (s : ByteArray),
 v = string s ∧
 CallA Try.prog fn_ledger_Read [string s] h fun (v : Value) (h : Heap) =>
 ∃ (a : Option Addr),
 ∃ (n : Int),
 v = tuple #[pointer a, int IntKind.i64 n] ∧
 Br (n == 0)
 (Br (!Option.isNone a)
 (CallA Try.prog fn_pledger_Ledger_Text [pointer a] h fun (v : Value) (h : Heap) =>
 ∃ (s : ByteArray),
 v = string s ∧ CallA Try.prog fn_pledger_Ledger_Text [pointer l] h fun (v : Value) (h : Heap) => ∃ (s_1 : ByteArray), v = string s_1 ∧ Ret h K (Value.bool (ByteArray.toList s == ByteArray.toList s_1)))
 (Ret h K (Value.bool false)))
 (Ret h K (Value.bool false)))
theorem L_law08_LedgerSums_0r (members : Int) (currencies : Int) (l : Option Addr) (t34 : Option Addr) (t34n : Nat) (t34c : Nat) (t35 : Int) (t36 : Int) (h : Heap) (K : Value → Heap → Prop) (k : L_law08_LedgerSums_0T members currencies l t34 t34n t34c t35 t36 h K) : L_law08_LedgerSums_0 members currencies l t34 t34n t34c t35 t36 h K :=
 LoopAt.of_ev (cs := []) Try.func11 mixed (fun junk => by kernel_rfl) k
def L_law08_LedgerSums_1T (members : Int) (currencies : Int) (l : Option Addr) (c : Int) (t34 : Option Addr) (t34n : Nat) (t34c : Nat) (t35 : Int) (t36 : Int) (h : Heap) (K : Value → Heap → Prop) : Prop :=
 Br (decide (c < currencies)) (L_law08_LedgerSums_2 members currencies l c none 0 0 0 t34 t34n t34c t35 t36 h K) (L_law08_LedgerSums_0 members currencies l t34 t34n t34c t35 (IntKind.wrap IntKind.i64 (t36 + 1)) h K)
theorem L_law08_LedgerSums_1r (members : Int) (currencies : Int) (l : Option Addr) (c : Int) (t34 : Option Addr) (t34n : Nat) (t34c : Nat) (t35 : Int) (t36 : Int) (h : Heap) (K : Value → Heap → Prop) (k : L_law08_LedgerSums_1T members currencies l c t34 t34n t34c t35 t36 h K) : L_law08_LedgerSums_1 members currencies l c t34 t34n t34c t35 t36 h K :=
 LoopAt.of_ev (cs := []) Try.func11 mixed (fun junk => by kernel_rfl) k
def L_law08_LedgerSums_2T (members : Int) (currencies : Int) (l : Option Addr) (c : Int) (of : Option Addr) (ofn : Nat) (ofc : Nat) (m : Int) (t34 : Option Addr) (t34n : Nat) (t34c : Nat) (t35 : Int) (t36 : Int) (h : Heap) (K : Value → Heap → Prop) : Prop :=
 Br (decide (m < members))
 (CallA Try.prog fn_pledger_Ledger_Get [pointer l, int IntKind.i64 m, int IntKind.i64 c] h fun (v : Value) (h : Heap) =>
 ∃ (n : Int),
 v = int IntKind.i64 n ∧
 newB h [int IntKind.i64 n] 2 fun (r : Nat) (h : Heap) =>
 AppA [int IntKind.i64 0] 2 h of ofn ofc 1 (some { block := r, off := 0 }) fun (ap : Option Addr) (cp : Nat) (h : Heap) =>
 L_law08_LedgerSums_2 members currencies l c ap (ofn + 1) cp (IntKind.wrap IntKind.i64 (m + 1)) t34 t34n t34c t35 t36 h K)
 (CallA Try.prog fn_money_Sum [slice of ofn ofc] h fun (v : Value) (h : Heap) =>
 ∃ (n : Int),
 ∃ (n_1 : Int),
 v = tuple #[int IntKind.i64 n, int IntKind.i64 n_1] ∧
 Br (n_1 != 0) (Ret h K (Value.bool false))
 (CallA Try.prog fn_pledger_Ledger_Nostro [pointer l, int IntKind.i64 c] h fun (v : Value) (h : Heap) =>
 ∃ (n_2 : Int),
 v = int IntKind.i64 n_2 ∧
 Br (n != n_2) (Ret h K (Value.bool false)) (Br (decide (n < 0)) (Ret h K (Value.bool false)) (L_law08_LedgerSums_1 members currencies l (IntKind.wrap IntKind.i64 (c + 1)) t34 t34n t34c t35 t36 h K))))
theorem L_law08_LedgerSums_2r (members : Int) (currencies : Int) (l : Option Addr) (c : Int) (of : Option Addr) (ofn : Nat) (ofc : Nat) (m : Int) (t34 : Option Addr) (t34n : Nat) (t34c : Nat) (t35 : Int) (t36 : Int) (h : Heap) (K : Value → Heap → Prop) (k : L_law08_LedgerSums_2T members currencies l c of ofn ofc m t34 t34n t34c t35 t36 h K) : L_law08_LedgerSums_2 members currencies l c of ofn ofc m t34 t34n t34c t35 t36 h K :=
 LoopAt.of_ev (cs := []) Try.func11 mixed (fun junk => by kernel_rfl) k
def F_law08_LedgerSumsT (members : Int) (currencies : Int) (ops : Option Addr) (opsn : Nat) (opsc : Nat) (h : Heap) (K : Value → Heap → Prop) : Prop :=
 CallA Try.prog fn_law08_awake [] h fun (v : Value) (h : Heap) =>
 ∃ (b : Bool),
 v = Value.bool b ∧
 Br (!b) (Ret h K (Value.bool false))
 (CallA Try.prog fn_law08_large [slice ops opsn opsc] h fun (v : Value) (h : Heap) =>
 ∃ (b : Bool),
 v = Value.bool b ∧
 Br b (Ret h K (Value.bool true))
 (CallA Try.prog fn_ledger_New [int IntKind.i64 members, int IntKind.i64 currencies] h fun (v : Value) (h : Heap) =>
 ∃ (a : Option Addr), ∃ (n : Int), v = tuple #[pointer a, int IntKind.i64 n] ∧ Br (Option.isNone a) (Ret h K (Value.bool (n == 1))) (L_law08_LedgerSums_0 members currencies a ops opsn opsc (↑opsn : Int) 0 h K)))
theorem F_law08_LedgerSums (members : Int) (currencies : Int) (ops : Option Addr) (opsn : Nat) (opsc : Nat) (h : Heap) (K : Value → Heap → Prop) (k : F_law08_LedgerSumsT members currencies ops opsn opsc h K) : CallA Try.prog fn_law08_LedgerSums [int IntKind.i64 members, int IntKind.i64 currencies, slice ops opsn opsc] h K :=
 CallA.of_ev (cs := []) Try.func11 (by kernel_rfl) (fun _ _ => Try.call11 _ _) mixed (by kernel_rfl) (by kernel_rfl) k
def L_law08_LedgerBack_0 (more : Option Addr) (moren : Nat) (morec : Nat) (x : Nat) (l : Option Addr) (t35 : Option Addr) (t35n : Nat) (t35c : Nat) (t36 : Int) (t37 : Int) (h : Heap) (K : Value → Heap → Prop) : Prop :=
 LoopAt Try.prog Try.f12 12 (loopK Try.f12 0) (sp 131 [(3, slice more moren morec), (9, pointer (some { block := x, off := 0 })), (11, pointer l), (35, slice t35 t35n t35c), (36, int IntKind.i64 t36), (37, int IntKind.i64 t37)]) h K
def L_law08_LedgerBack_1 (more : Option Addr) (moren : Nat) (morec : Nat) (x : Nat) (l : Option Addr) (was : ByteArray) (off : Option Addr) (offn : Nat) (offc : Nat) (i : Int) (h : Heap) (K : Value → Heap → Prop) : Prop :=
 LoopAt Try.prog Try.f12 12 (loopK Try.f12 1) (sp 131 [(3, slice more moren morec), (9, pointer (some { block := x, off := 0 })), (11, pointer l), (15, string was), (16, slice off offn offc), (17, int IntKind.i64 i)]) h K
def L_law08_LedgerBack_0T (more : Option Addr) (moren : Nat) (morec : Nat) (x : Nat) (l : Option Addr) (t35 : Option Addr) (t35n : Nat) (t35c : Nat) (t36 : Int) (t37 : Int) (h : Heap) (K : Value → Heap → Prop) : Prop :=
 Br (decide (t37 < t36))
 (0 ≤ t37 ∧
 t37 < (↑t35n : Int) ∧
 withAddr t35 fun (b o : Nat) =>
 ∃ (n : Int),
 Heap.cell h b (o + Int.toNat t37 * 7) = some (int IntKind.i64 n) ∧
 ∃ (n_1 : Int),
 Heap.cell h b (o + Int.toNat t37 * 7 + 1) = some (int IntKind.i64 n_1) ∧
 ∃ (n_2 : Int),
 Heap.cell h b (o + Int.toNat t37 * 7 + 2) = some (int IntKind.i64 n_2) ∧
 ∃ (n_3 : Int),
 Heap.cell h b (o + Int.toNat t37 * 7 + 3) = some (int IntKind.i64 n_3) ∧
 ∃ (n_4 : Int),
 Heap.cell h b (o + Int.toNat t37 * 7 + 4) = some (int IntKind.i64 n_4) ∧
 ∃ (n_5 : Int),
 Heap.cell h b (o + Int.toNat t37 * 7 + 5) = some (int IntKind.i64 n_5) ∧
 ∃ (a : Option Addr),
 ∃ (n_6 : Nat),
 ∃ (m : Nat),
 Heap.cell h b (o + Int.toNat t37 * 7 + 6) = some (slice a n_6 m) ∧
 newB h [int IntKind.i64 0, int IntKind.i64 0, int IntKind.i64 0, int IntKind.i64 0, int IntKind.i64 0, int IntKind.i64 0, slice none 0 0] 90 fun (r : Nat) (h : Heap) =>
 Heap.canSt h r 0 7 ∧
 ∃ (n_7 : Int),
 Heap.cell (Heap.setN h r 0 [int IntKind.i64 n, int IntKind.i64 n_1, int IntKind.i64 n_2, int IntKind.i64 n_3, int IntKind.i64 n_4, int IntKind.i64 n_5, slice a n_6 m]) r 0 =
 some (int IntKind.i64 n_7) ∧
 ∃ (n_8 : Int),
 Heap.cell (Heap.setN h r 0 [int IntKind.i64 n, int IntKind.i64 n_1, int IntKind.i64 n_2, int IntKind.i64 n_3, int IntKind.i64 n_4, int IntKind.i64 n_5, slice a n_6 m]) r
 1 =
 some (int IntKind.i64 n_8) ∧
 ∃ (n_9 : Int),
 Heap.cell
 (Heap.setN h r 0 [int IntKind.i64 n, int IntKind.i64 n_1, int IntKind.i64 n_2, int IntKind.i64 n_3, int IntKind.i64 n_4, int IntKind.i64 n_5, slice a n_6 m]) r
 2 =
 some (int IntKind.i64 n_9) ∧
 ∃ (n_10 : Int),
 Heap.cell
 (Heap.setN h r 0
 [int IntKind.i64 n, int IntKind.i64 n_1, int IntKind.i64 n_2, int IntKind.i64 n_3, int IntKind.i64 n_4, int IntKind.i64 n_5, slice a n_6 m])
 r 3 =
 some (int IntKind.i64 n_10) ∧
 ∃ (n_11 : Int),
 Heap.cell
 (Heap.setN h r 0
 [int IntKind.i64 n, int IntKind.i64 n_1, int IntKind.i64 n_2, int IntKind.i64 n_3, int IntKind.i64 n_4, int IntKind.i64 n_5, slice a n_6 m])
 r 4 =
 some (int IntKind.i64 n_11) ∧
 ∃ (n_12 : Int),
 Heap.cell
 (Heap.setN h r 0
 [int IntKind.i64 n, int IntKind.i64 n_1, int IntKind.i64 n_2, int IntKind.i64 n_3, int IntKind.i64 n_4, int IntKind.i64 n_5, slice a n_6 m])
 r 5 =
 some (int IntKind.i64 n_12) ∧
 ∃ (a_1 : Option Addr),
 ∃ (n_13 : Nat),
 ∃ (m_1 : Nat),
 Heap.cell
 (Heap.setN h r 0
 [int IntKind.i64 n, int IntKind.i64 n_1, int IntKind.i64 n_2, int IntKind.i64 n_3, int IntKind.i64 n_4, int IntKind.i64 n_5,
 slice a n_6 m])
 r 6 =
 some (slice a_1 n_13 m_1) ∧
 CallA Try.prog 48
 [pointer l,
 agg
 #[int IntKind.i64 n_7, int IntKind.i64 n_8, int IntKind.i64 n_9, int IntKind.i64 n_10, int IntKind.i64 n_11, int IntKind.i64 n_12,
 slice a_1 n_13 m_1]]
 (Heap.setN h r 0
 [int IntKind.i64 n, int IntKind.i64 n_1, int IntKind.i64 n_2, int IntKind.i64 n_3, int IntKind.i64 n_4, int IntKind.i64 n_5, slice a n_6 m])
 fun (v : Value) (h : Heap) =>
 ∃ (n : Int), v = int IntKind.i64 n ∧ L_law08_LedgerBack_0 more moren morec x l t35 t35n t35c t36 (IntKind.wrap IntKind.i64 (t37 + 1)) h K)
 (CallA Try.prog fn_pledger_Ledger_Text [pointer l] h fun (v : Value) (h : Heap) =>
 ∃ (s : ByteArray),
 v = string s ∧
 CallA Try.prog fn_pledger_Ledger_Post [pointer l, slice more moren morec] h fun (v : Value) (h : Heap) =>
 ∃ (n : Int),
 v = int IntKind.i64 n ∧
 Br (n == 0) (L_law08_LedgerBack_1 more moren morec x l s none 0 0 (IntKind.wrap IntKind.i64 ((↑moren : Int) - 1)) h K)
 (∃ (n : Int),
 Heap.cell h x 1 = some (int IntKind.i64 n) ∧
 ∃ (n_1 : Int),
 Heap.cell h x 2 = some (int IntKind.i64 n_1) ∧
 CallA Try.prog fn_pledger_Ledger_Get [pointer l, int IntKind.i64 n, int IntKind.i64 n_1] h fun (v : Value) (h : Heap) =>
 ∃ (n : Int),
 v = int IntKind.i64 n ∧
 Br (decide (n < 0))
 (CallA Try.prog fn_pledger_Ledger_Text [pointer l] h fun (v : Value) (h : Heap) => ∃ (s_1 : ByteArray), v = string s_1 ∧ Ret h K (Value.bool (ByteArray.toList s_1 == ByteArray.toList s)))
 (∃ (n : Int),
 Heap.cell h x 1 = some (int IntKind.i64 n) ∧
 ∃ (n_2 : Int),
 Heap.cell h x 2 = some (int IntKind.i64 n_2) ∧
 ∃ (n_3 : Int),
 Heap.cell h x 4 = some (int IntKind.i64 n_3) ∧
 CallA Try.prog fn_pledger_Ledger_In [pointer l, int IntKind.i64 n, int IntKind.i64 n_2, int IntKind.i64 n_3] h fun (v : Value) (h : Heap) =>
 ∃ (n : Int),
 v = int IntKind.i64 n ∧
 Br (n != 0)
 (CallA Try.prog fn_pledger_Ledger_Text [pointer l] h fun (v : Value) (h : Heap) =>
 ∃ (s_1 : ByteArray), v = string s_1 ∧ Ret h K (Value.bool (ByteArray.toList s_1 == ByteArray.toList s)))
 (∃ (n : Int),
 Heap.cell h x 1 = some (int IntKind.i64 n) ∧
 ∃ (n_4 : Int),
 Heap.cell h x 2 = some (int IntKind.i64 n_4) ∧
 ∃ (n_5 : Int),
 Heap.cell h x 4 = some (int IntKind.i64 n_5) ∧
 CallA Try.prog fn_pledger_Ledger_Out [pointer l, int IntKind.i64 n, int IntKind.i64 n_4, int IntKind.i64 n_5] h fun (v : Value) (h : Heap) =>
 ∃ (n : Int),
 v = int IntKind.i64 n ∧
 Br (n == 0)
 (CallA Try.prog fn_pledger_Ledger_Text [pointer l] h fun (v : Value) (h : Heap) =>
 ∃ (s_1 : ByteArray), v = string s_1 ∧ Ret h K (Value.bool (ByteArray.toList s_1 == ByteArray.toList s)))
 (Ret h K (Value.bool false))))))
theorem L_law08_LedgerBack_0r (more : Option Addr) (moren : Nat) (morec : Nat) (x : Nat) (l : Option Addr) (t35 : Option Addr) (t35n : Nat) (t35c : Nat) (t36 : Int) (t37 : Int) (h : Heap) (K : Value → Heap → Prop) (k : L_law08_LedgerBack_0T more moren morec x l t35 t35n t35c t36 t37 h K) : L_law08_LedgerBack_0 more moren morec x l t35 t35n t35c t36 t37 h K :=
 LoopAt.of_ev (cs := []) Try.func12 mixed (fun junk => by kernel_rfl) k
def L_law08_LedgerBack_1T (more : Option Addr) (moren : Nat) (morec : Nat) (x : Nat) (l : Option Addr) (was : ByteArray) (off : Option Addr) (offn : Nat) (offc : Nat) (i : Int) (h : Heap) (K : Value → Heap → Prop) : Prop :=
 Br (decide (i ≥ 0))
 (0 ≤ i ∧
 i < (↑moren : Int) ∧
 withAddr more fun (b o : Nat) =>
 ∃ (n : Int),
 Heap.cell h b (o + Int.toNat i * 3 + 2) = some (int IntKind.i64 n) ∧
 Br (n == -9223372036854775808) (Ret h K (Value.bool true))
 (0 ≤ i ∧
 i < (↑moren : Int) ∧
 withAddr more fun (b o : Nat) =>
 ∃ (n : Int),
 Heap.cell h b (o + Int.toNat i * 3) = some (int IntKind.i64 n) ∧
 0 ≤ i ∧
 i < (↑moren : Int) ∧
 withAddr more fun (b o : Nat) =>
 ∃ (n_1 : Int),
 Heap.cell h b (o + Int.toNat i * 3 + 1) = some (int IntKind.i64 n_1) ∧
 0 ≤ i ∧
 i < (↑moren : Int) ∧
 withAddr more fun (b o : Nat) =>
 ∃ (n_2 : Int),
 Heap.cell h b (o + Int.toNat i * 3 + 2) = some (int IntKind.i64 n_2) ∧
 newB h [int IntKind.i64 n, int IntKind.i64 n_1, int IntKind.i64 (IntKind.wrap IntKind.i64 (0 - n_2))] 102 fun (r : Nat) (h : Heap) =>
 AppA [int IntKind.i64 0, int IntKind.i64 0, int IntKind.i64 0] 102 h off offn offc 1 (some { block := r, off := 0 }) fun (ap : Option Addr) (cp : Nat) (h : Heap) =>
 L_law08_LedgerBack_1 more moren morec x l was ap (offn + 1) cp (IntKind.wrap IntKind.i64 (i - 1)) h K))
 (CallA Try.prog fn_pledger_Ledger_Post [pointer l, slice off offn offc] h fun (v : Value) (h : Heap) =>
 ∃ (n : Int),
 v = int IntKind.i64 n ∧
 Br (n != 0) (Ret h K (Value.bool false))
 (CallA Try.prog fn_pledger_Ledger_Text [pointer l] h fun (v : Value) (h : Heap) =>
 ∃ (s : ByteArray),
 v = string s ∧
 Br (!ByteArray.toList s == ByteArray.toList was) (Ret h K (Value.bool false))
 (∃ (n : Int),
 Heap.cell h x 1 = some (int IntKind.i64 n) ∧
 ∃ (n_1 : Int),
 Heap.cell h x 2 = some (int IntKind.i64 n_1) ∧
 CallA Try.prog fn_pledger_Ledger_Get [pointer l, int IntKind.i64 n, int IntKind.i64 n_1] h fun (v : Value) (h : Heap) =>
 ∃ (n : Int),
 v = int IntKind.i64 n ∧
 Br (decide (n < 0))
 (CallA Try.prog fn_pledger_Ledger_Text [pointer l] h fun (v : Value) (h : Heap) => ∃ (s : ByteArray), v = string s ∧ Ret h K (Value.bool (ByteArray.toList s == ByteArray.toList was)))
 (∃ (n : Int),
 Heap.cell h x 1 = some (int IntKind.i64 n) ∧
 ∃ (n_2 : Int),
 Heap.cell h x 2 = some (int IntKind.i64 n_2) ∧
 ∃ (n_3 : Int),
 Heap.cell h x 4 = some (int IntKind.i64 n_3) ∧
 CallA Try.prog fn_pledger_Ledger_In [pointer l, int IntKind.i64 n, int IntKind.i64 n_2, int IntKind.i64 n_3] h fun (v : Value) (h : Heap) =>
 ∃ (n : Int),
 v = int IntKind.i64 n ∧
 Br (n != 0)
 (CallA Try.prog fn_pledger_Ledger_Text [pointer l] h fun (v : Value) (h : Heap) =>
 ∃ (s : ByteArray), v = string s ∧ Ret h K (Value.bool (ByteArray.toList s == ByteArray.toList was)))
 (∃ (n : Int),
 Heap.cell h x 1 = some (int IntKind.i64 n) ∧
 ∃ (n_4 : Int),
 Heap.cell h x 2 = some (int IntKind.i64 n_4) ∧
 ∃ (n_5 : Int),
 Heap.cell h x 4 = some (int IntKind.i64 n_5) ∧
 CallA Try.prog fn_pledger_Ledger_Out [pointer l, int IntKind.i64 n, int IntKind.i64 n_4, int IntKind.i64 n_5] h fun (v : Value) (h : Heap) =>
 ∃ (n : Int),
 v = int IntKind.i64 n ∧
 Br (n == 0)
 (CallA Try.prog fn_pledger_Ledger_Text [pointer l] h fun (v : Value) (h : Heap) =>
 ∃ (s : ByteArray), v = string s ∧ Ret h K (Value.bool (ByteArray.toList s == ByteArray.toList was)))
 (Ret h K (Value.bool false)))))))
theorem L_law08_LedgerBack_1r (more : Option Addr) (moren : Nat) (morec : Nat) (x : Nat) (l : Option Addr) (was : ByteArray) (off : Option Addr) (offn : Nat) (offc : Nat) (i : Int) (h : Heap) (K : Value → Heap → Prop) (k : L_law08_LedgerBack_1T more moren morec x l was off offn offc i h K) : L_law08_LedgerBack_1 more moren morec x l was off offn offc i h K :=
 LoopAt.of_ev (cs := []) Try.func12 mixed (fun junk => by kernel_rfl) k
def F_law08_LedgerBackT (members : Int) (currencies : Int) (ops : Option Addr) (opsn : Nat) (opsc : Nat) (more : Option Addr) (moren : Nat) (morec : Nat) (x_0 : Int) (x_1 : Int) (x_2 : Int) (x_3 : Int) (x_4 : Int) (x_5 : Int) (x_6 : Option Addr) (x_6n : Nat) (x_6c : Nat) (h : Heap) (K : Value → Heap → Prop) : Prop :=
 newB h [int IntKind.i64 x_0, int IntKind.i64 x_1, int IntKind.i64 x_2, int IntKind.i64 x_3, int IntKind.i64 x_4, int IntKind.i64 x_5, slice x_6 x_6n x_6c] 90 fun (r : Nat) (h : Heap) =>
 CallA Try.prog fn_law08_awake [] h fun (v : Value) (h : Heap) =>
 ∃ (b : Bool),
 v = Value.bool b ∧
 Br (!b) (Ret h K (Value.bool false))
 (CallA Try.prog fn_law08_large [slice ops opsn opsc] h fun (v : Value) (h : Heap) =>
 ∃ (b : Bool),
 v = Value.bool b ∧
 Br b (Ret h K (Value.bool true))
 (Br (decide ((↑moren : Int) > 30)) (Ret h K (Value.bool true))
 (CallA Try.prog fn_ledger_New [int IntKind.i64 members, int IntKind.i64 currencies] h fun (v : Value) (h : Heap) =>
 ∃ (a : Option Addr), ∃ (n : Int), v = tuple #[pointer a, int IntKind.i64 n] ∧ Br (Option.isNone a) (Ret h K (Value.bool true)) (L_law08_LedgerBack_0 more moren morec r a ops opsn opsc (↑opsn : Int) 0 h K))))
theorem F_law08_LedgerBack (members : Int) (currencies : Int) (ops : Option Addr) (opsn : Nat) (opsc : Nat) (more : Option Addr) (moren : Nat) (morec : Nat) (x_0 : Int) (x_1 : Int) (x_2 : Int) (x_3 : Int) (x_4 : Int) (x_5 : Int) (x_6 : Option Addr) (x_6n : Nat) (x_6c : Nat) (h : Heap) (K : Value → Heap → Prop) (k : F_law08_LedgerBackT members currencies ops opsn opsc more moren morec x_0 x_1 x_2 x_3 x_4 x_5 x_6 x_6n x_6c h K) : CallA Try.prog fn_law08_LedgerBack [int IntKind.i64 members, int IntKind.i64 currencies, slice ops opsn opsc, slice more moren morec,
 agg #[int IntKind.i64 x_0, int IntKind.i64 x_1, int IntKind.i64 x_2, int IntKind.i64 x_3, int IntKind.i64 x_4, int IntKind.i64 x_5, slice x_6 x_6n x_6c]] h K :=
 CallA.of_ev (cs := []) Try.func12 (by kernel_rfl) (fun _ _ => Try.call12 _ _) mixed (by kernel_rfl) (by kernel_rfl) k
def L_law08_LedgerOn_0 (more : Option Addr) (moren : Nat) (morec : Nat) (l : Option Addr) (t33 : Option Addr) (t33n : Nat) (t33c : Nat) (t34 : Int) (t35 : Int) (h : Heap) (K : Value → Heap → Prop) : Prop :=
 LoopAt Try.prog Try.f13 13 (loopK Try.f13 0) (sp 76 [(3, slice more moren morec), (9, pointer l), (33, slice t33 t33n t33c), (34, int IntKind.i64 t34), (35, int IntKind.i64 t35)]) h K
def L_law08_LedgerOn_1 (l : Option Addr) (k' : Option Addr) (t55 : Option Addr) (t55n : Nat) (t55c : Nat) (t56 : Int) (t57 : Int) (h : Heap) (K : Value → Heap → Prop) : Prop :=
 LoopAt Try.prog Try.f13 13 (loopK Try.f13 1) (sp 76 [(9, pointer l), (13, pointer k'), (55, slice t55 t55n t55c), (56, int IntKind.i64 t56), (57, int IntKind.i64 t57)]) h K
def L_law08_LedgerOn_0T (more : Option Addr) (moren : Nat) (morec : Nat) (l : Option Addr) (t33 : Option Addr) (t33n : Nat) (t33c : Nat) (t34 : Int) (t35 : Int) (h : Heap) (K : Value → Heap → Prop) : Prop :=
 Br (decide (t35 < t34))
 (0 ≤ t35 ∧
 t35 < (↑t33n : Int) ∧
 withAddr t33 fun (b o : Nat) =>
 ∃ (n : Int),
 Heap.cell h b (o + Int.toNat t35 * 7) = some (int IntKind.i64 n) ∧
 ∃ (n_1 : Int),
 Heap.cell h b (o + Int.toNat t35 * 7 + 1) = some (int IntKind.i64 n_1) ∧
 ∃ (n_2 : Int),
 Heap.cell h b (o + Int.toNat t35 * 7 + 2) = some (int IntKind.i64 n_2) ∧
 ∃ (n_3 : Int),
 Heap.cell h b (o + Int.toNat t35 * 7 + 3) = some (int IntKind.i64 n_3) ∧
 ∃ (n_4 : Int),
 Heap.cell h b (o + Int.toNat t35 * 7 + 4) = some (int IntKind.i64 n_4) ∧
 ∃ (n_5 : Int),
 Heap.cell h b (o + Int.toNat t35 * 7 + 5) = some (int IntKind.i64 n_5) ∧
 ∃ (a : Option Addr),
 ∃ (n_6 : Nat),
 ∃ (m : Nat),
 Heap.cell h b (o + Int.toNat t35 * 7 + 6) = some (slice a n_6 m) ∧
 newB h [int IntKind.i64 0, int IntKind.i64 0, int IntKind.i64 0, int IntKind.i64 0, int IntKind.i64 0, int IntKind.i64 0, slice none 0 0] 90 fun (r : Nat) (h : Heap) =>
 Heap.canSt h r 0 7 ∧
 ∃ (n_7 : Int),
 Heap.cell (Heap.setN h r 0 [int IntKind.i64 n, int IntKind.i64 n_1, int IntKind.i64 n_2, int IntKind.i64 n_3, int IntKind.i64 n_4, int IntKind.i64 n_5, slice a n_6 m]) r 0 =
 some (int IntKind.i64 n_7) ∧
 ∃ (n_8 : Int),
 Heap.cell (Heap.setN h r 0 [int IntKind.i64 n, int IntKind.i64 n_1, int IntKind.i64 n_2, int IntKind.i64 n_3, int IntKind.i64 n_4, int IntKind.i64 n_5, slice a n_6 m]) r
 1 =
 some (int IntKind.i64 n_8) ∧
 ∃ (n_9 : Int),
 Heap.cell
 (Heap.setN h r 0 [int IntKind.i64 n, int IntKind.i64 n_1, int IntKind.i64 n_2, int IntKind.i64 n_3, int IntKind.i64 n_4, int IntKind.i64 n_5, slice a n_6 m]) r
 2 =
 some (int IntKind.i64 n_9) ∧
 ∃ (n_10 : Int),
 Heap.cell
 (Heap.setN h r 0
 [int IntKind.i64 n, int IntKind.i64 n_1, int IntKind.i64 n_2, int IntKind.i64 n_3, int IntKind.i64 n_4, int IntKind.i64 n_5, slice a n_6 m])
 r 3 =
 some (int IntKind.i64 n_10) ∧
 ∃ (n_11 : Int),
 Heap.cell
 (Heap.setN h r 0
 [int IntKind.i64 n, int IntKind.i64 n_1, int IntKind.i64 n_2, int IntKind.i64 n_3, int IntKind.i64 n_4, int IntKind.i64 n_5, slice a n_6 m])
 r 4 =
 some (int IntKind.i64 n_11) ∧
 ∃ (n_12 : Int),
 Heap.cell
 (Heap.setN h r 0
 [int IntKind.i64 n, int IntKind.i64 n_1, int IntKind.i64 n_2, int IntKind.i64 n_3, int IntKind.i64 n_4, int IntKind.i64 n_5, slice a n_6 m])
 r 5 =
 some (int IntKind.i64 n_12) ∧
 ∃ (a_1 : Option Addr),
 ∃ (n_13 : Nat),
 ∃ (m_1 : Nat),
 Heap.cell
 (Heap.setN h r 0
 [int IntKind.i64 n, int IntKind.i64 n_1, int IntKind.i64 n_2, int IntKind.i64 n_3, int IntKind.i64 n_4, int IntKind.i64 n_5,
 slice a n_6 m])
 r 6 =
 some (slice a_1 n_13 m_1) ∧
 CallA Try.prog 48
 [pointer l,
 agg
 #[int IntKind.i64 n_7, int IntKind.i64 n_8, int IntKind.i64 n_9, int IntKind.i64 n_10, int IntKind.i64 n_11, int IntKind.i64 n_12,
 slice a_1 n_13 m_1]]
 (Heap.setN h r 0
 [int IntKind.i64 n, int IntKind.i64 n_1, int IntKind.i64 n_2, int IntKind.i64 n_3, int IntKind.i64 n_4, int IntKind.i64 n_5, slice a n_6 m])
 fun (v : Value) (h : Heap) =>
 ∃ (n : Int), v = int IntKind.i64 n ∧ L_law08_LedgerOn_0 more moren morec l t33 t33n t33c t34 (IntKind.wrap IntKind.i64 (t35 + 1)) h K)
 (CallA Try.prog fn_pledger_Ledger_Text [pointer l] h fun (v : Value) (h : Heap) =>
 ∃ (s : ByteArray),
 v = string s ∧
 CallA Try.prog fn_ledger_Read [string s] h fun (v : Value) (h : Heap) =>
 ∃ (a : Option Addr),
 ∃ (n : Int), v = tuple #[pointer a, int IntKind.i64 n] ∧ Br (Option.isNone a) (Ret h K (Value.bool false)) (Br (n != 0) (Ret h K (Value.bool false)) (L_law08_LedgerOn_1 l a more moren morec (↑moren : Int) 0 h K)))
theorem L_law08_LedgerOn_0r (more : Option Addr) (moren : Nat) (morec : Nat) (l : Option Addr) (t33 : Option Addr) (t33n : Nat) (t33c : Nat) (t34 : Int) (t35 : Int) (h : Heap) (K : Value → Heap → Prop) (k : L_law08_LedgerOn_0T more moren morec l t33 t33n t33c t34 t35 h K) : L_law08_LedgerOn_0 more moren morec l t33 t33n t33c t34 t35 h K :=
 LoopAt.of_ev (cs := []) Try.func13 mixed (fun junk => by kernel_rfl) k
def L_law08_LedgerOn_1T (l : Option Addr) (k' : Option Addr) (t55 : Option Addr) (t55n : Nat) (t55c : Nat) (t56 : Int) (t57 : Int) (h : Heap) (K : Value → Heap → Prop) : Prop :=
 Br (decide (t57 < t56))
 (0 ≤ t57 ∧
 t57 < (↑t55n : Int) ∧
 withAddr t55 fun (b o : Nat) =>
 ∃ (n : Int),
 Heap.cell h b (o + Int.toNat t57 * 7) = some (int IntKind.i64 n) ∧
 ∃ (n_1 : Int),
 Heap.cell h b (o + Int.toNat t57 * 7 + 1) = some (int IntKind.i64 n_1) ∧
 ∃ (n_2 : Int),
 Heap.cell h b (o + Int.toNat t57 * 7 + 2) = some (int IntKind.i64 n_2) ∧
 ∃ (n_3 : Int),
 Heap.cell h b (o + Int.toNat t57 * 7 + 3) = some (int IntKind.i64 n_3) ∧
 ∃ (n_4 : Int),
 Heap.cell h b (o + Int.toNat t57 * 7 + 4) = some (int IntKind.i64 n_4) ∧
 ∃ (n_5 : Int),
 Heap.cell h b (o + Int.toNat t57 * 7 + 5) = some (int IntKind.i64 n_5) ∧
 ∃ (a : Option Addr),
 ∃ (n_6 : Nat),
 ∃ (m : Nat),
 Heap.cell h b (o + Int.toNat t57 * 7 + 6) = some (slice a n_6 m) ∧
 newB h [int IntKind.i64 0, int IntKind.i64 0, int IntKind.i64 0, int IntKind.i64 0, int IntKind.i64 0, int IntKind.i64 0, slice none 0 0] 90 fun (r : Nat) (h : Heap) =>
 Heap.canSt h r 0 7 ∧
 ∃ (n_7 : Int),
 Heap.cell (Heap.setN h r 0 [int IntKind.i64 n, int IntKind.i64 n_1, int IntKind.i64 n_2, int IntKind.i64 n_3, int IntKind.i64 n_4, int IntKind.i64 n_5, slice a n_6 m]) r 0 =
 some (int IntKind.i64 n_7) ∧
 ∃ (n_8 : Int),
 Heap.cell (Heap.setN h r 0 [int IntKind.i64 n, int IntKind.i64 n_1, int IntKind.i64 n_2, int IntKind.i64 n_3, int IntKind.i64 n_4, int IntKind.i64 n_5, slice a n_6 m]) r
 1 =
 some (int IntKind.i64 n_8) ∧
 ∃ (n_9 : Int),
 Heap.cell
 (Heap.setN h r 0 [int IntKind.i64 n, int IntKind.i64 n_1, int IntKind.i64 n_2, int IntKind.i64 n_3, int IntKind.i64 n_4, int IntKind.i64 n_5, slice a n_6 m]) r
 2 =
 some (int IntKind.i64 n_9) ∧
 ∃ (n_10 : Int),
 Heap.cell
 (Heap.setN h r 0
 [int IntKind.i64 n, int IntKind.i64 n_1, int IntKind.i64 n_2, int IntKind.i64 n_3, int IntKind.i64 n_4, int IntKind.i64 n_5, slice a n_6 m])
 r 3 =
 some (int IntKind.i64 n_10) ∧
 ∃ (n_11 : Int),
 Heap.cell
 (Heap.setN h r 0
 [int IntKind.i64 n, int IntKind.i64 n_1, int IntKind.i64 n_2, int IntKind.i64 n_3, int IntKind.i64 n_4, int IntKind.i64 n_5, slice a n_6 m])
 r 4 =
 some (int IntKind.i64 n_11) ∧
 ∃ (n_12 : Int),
 Heap.cell
 (Heap.setN h r 0
 [int IntKind.i64 n, int IntKind.i64 n_1, int IntKind.i64 n_2, int IntKind.i64 n_3, int IntKind.i64 n_4, int IntKind.i64 n_5, slice a n_6 m])
 r 5 =
 some (int IntKind.i64 n_12) ∧
 ∃ (a_1 : Option Addr),
 ∃ (n_13 : Nat),
 ∃ (m_1 : Nat),
 Heap.cell
 (Heap.setN h r 0
 [int IntKind.i64 n, int IntKind.i64 n_1, int IntKind.i64 n_2, int IntKind.i64 n_3, int IntKind.i64 n_4, int IntKind.i64 n_5,
 slice a n_6 m])
 r 6 =
 some (slice a_1 n_13 m_1) ∧
 ∃ (n_14 : Int),
 Heap.cell
 (Heap.setN h r 0
 [int IntKind.i64 n, int IntKind.i64 n_1, int IntKind.i64 n_2, int IntKind.i64 n_3, int IntKind.i64 n_4, int IntKind.i64 n_5,
 slice a n_6 m])
 r 0 =
 some (int IntKind.i64 n_14) ∧
 ∃ (n_15 : Int),
 Heap.cell
 (Heap.setN h r 0
 [int IntKind.i64 n, int IntKind.i64 n_1, int IntKind.i64 n_2, int IntKind.i64 n_3, int IntKind.i64 n_4, int IntKind.i64 n_5,
 slice a n_6 m])
 r 1 =
 some (int IntKind.i64 n_15) ∧
 ∃ (n_16 : Int),
 Heap.cell
 (Heap.setN h r 0
 [int IntKind.i64 n, int IntKind.i64 n_1, int IntKind.i64 n_2, int IntKind.i64 n_3, int IntKind.i64 n_4, int IntKind.i64 n_5,
 slice a n_6 m])
 r 2 =
 some (int IntKind.i64 n_16) ∧
 ∃ (n_17 : Int),
 Heap.cell
 (Heap.setN h r 0
 [int IntKind.i64 n, int IntKind.i64 n_1, int IntKind.i64 n_2, int IntKind.i64 n_3, int IntKind.i64 n_4,
 int IntKind.i64 n_5, slice a n_6 m])
 r 3 =
 some (int IntKind.i64 n_17) ∧
 ∃ (n_18 : Int),
 Heap.cell
 (Heap.setN h r 0
 [int IntKind.i64 n, int IntKind.i64 n_1, int IntKind.i64 n_2, int IntKind.i64 n_3, int IntKind.i64 n_4,
 int IntKind.i64 n_5, slice a n_6 m])
 r 4 =
 some (int IntKind.i64 n_18) ∧
 ∃ (n_19 : Int),
 Heap.cell
 (Heap.setN h r 0
 [int IntKind.i64 n, int IntKind.i64 n_1, int IntKind.i64 n_2, int IntKind.i64 n_3, int IntKind.i64 n_4,
 int IntKind.i64 n_5, slice a n_6 m])
 r 5 =
 some (int IntKind.i64 n_19) ∧
 ∃ (a_2 : Option Addr),
 ∃ (n_20 : Nat),
 ∃ (m_2 : Nat),
 Heap.cell
 (Heap.setN h r 0
 [int IntKind.i64 n, int IntKind.i64 n_1, int IntKind.i64 n_2, int IntKind.i64 n_3, int IntKind.i64 n_4,
 int IntKind.i64 n_5, slice a n_6 m])
 r 6 =
 some (slice a_2 n_20 m_2) ∧
 CallA Try.prog 48
 [pointer l,
 agg
 #[int IntKind.i64 n_7, int IntKind.i64 n_8, int IntKind.i64 n_9, int IntKind.i64 n_10,
 int IntKind.i64 n_11, int IntKind.i64 n_12, slice a_1 n_13 m_1]]
 (Heap.setN h r 0
 [int IntKind.i64 n, int IntKind.i64 n_1, int IntKind.i64 n_2, int IntKind.i64 n_3, int IntKind.i64 n_4,
 int IntKind.i64 n_5, slice a n_6 m])
 fun (v : Value) (h_1 : Heap) =>
 ∃ (n_21 : Int),
 v = int IntKind.i64 n_21 ∧
 (Heap.le
 (Heap.setN h r 0
 [int IntKind.i64 n, int IntKind.i64 n_1, int IntKind.i64 n_2, int IntKind.i64 n_3,
 int IntKind.i64 n_4, int IntKind.i64 n_5, slice a n_6 m])
 h_1 ∨
 Keeps [r]
 (Heap.setN h r 0
 [int IntKind.i64 n, int IntKind.i64 n_1, int IntKind.i64 n_2, int IntKind.i64 n_3,
 int IntKind.i64 n_4, int IntKind.i64 n_5, slice a n_6 m])
 h_1) ∧
 CallA Try.prog 48
 [pointer k',
 agg
 #[int IntKind.i64 n_14, int IntKind.i64 n_15, int IntKind.i64 n_16, int IntKind.i64 n_17,
 int IntKind.i64 n_18, int IntKind.i64 n_19, slice a_2 n_20 m_2]]
 h_1 fun (v : Value) (h : Heap) =>
 ∃ (n : Int),
 v = int IntKind.i64 n ∧
 Br (n_21 != n) (Ret h K (Value.bool false))
 (CallA Try.prog fn_pledger_Ledger_Text [pointer l] h fun (v : Value) (h : Heap) =>
 ∃ (s : ByteArray),
 v = string s ∧
 CallA Try.prog fn_pledger_Ledger_Text [pointer k'] h fun (v : Value) (h : Heap) =>
 ∃ (s_1 : ByteArray),
 v = string s_1 ∧
 Br (!ByteArray.toList s == ByteArray.toList s_1) (Ret h K (Value.bool false))
 (L_law08_LedgerOn_1 l k' t55 t55n t55c t56 (IntKind.wrap IntKind.i64 (t57 + 1)) h K)))
 (Ret h K (Value.bool true))
theorem L_law08_LedgerOn_1r (l : Option Addr) (k' : Option Addr) (t55 : Option Addr) (t55n : Nat) (t55c : Nat) (t56 : Int) (t57 : Int) (h : Heap) (K : Value → Heap → Prop) (k : L_law08_LedgerOn_1T l k' t55 t55n t55c t56 t57 h K) : L_law08_LedgerOn_1 l k' t55 t55n t55c t56 t57 h K :=
 LoopAt.of_ev (cs := []) Try.func13 mixed (fun junk => by kernel_rfl) k
def F_law08_LedgerOnT (members : Int) (currencies : Int) (ops : Option Addr) (opsn : Nat) (opsc : Nat) (more : Option Addr) (moren : Nat) (morec : Nat) (h : Heap) (K : Value → Heap → Prop) : Prop :=
 CallA Try.prog fn_law08_awake [] h fun (v : Value) (h : Heap) =>
 ∃ (b : Bool),
 v = Value.bool b ∧
 Br (!b) (Ret h K (Value.bool false))
 (CallA Try.prog fn_law08_large [slice ops opsn opsc] h fun (v : Value) (h : Heap) =>
 ∃ (b : Bool),
 v = Value.bool b ∧
 Br b (Ret h K (Value.bool true))
 (CallA Try.prog fn_law08_large [slice more moren morec] h fun (v : Value) (h : Heap) =>
 ∃ (b : Bool),
 v = Value.bool b ∧
 Br b (Ret h K (Value.bool true))
 (CallA Try.prog fn_ledger_New [int IntKind.i64 members, int IntKind.i64 currencies] h fun (v : Value) (h : Heap) =>
 ∃ (a : Option Addr), ∃ (n : Int), v = tuple #[pointer a, int IntKind.i64 n] ∧ Br (Option.isNone a) (Ret h K (Value.bool true)) (L_law08_LedgerOn_0 more moren morec a ops opsn opsc (↑opsn : Int) 0 h K))))
theorem F_law08_LedgerOn (members : Int) (currencies : Int) (ops : Option Addr) (opsn : Nat) (opsc : Nat) (more : Option Addr) (moren : Nat) (morec : Nat) (h : Heap) (K : Value → Heap → Prop) (k : F_law08_LedgerOnT members currencies ops opsn opsc more moren morec h K) : CallA Try.prog fn_law08_LedgerOn [int IntKind.i64 members, int IntKind.i64 currencies, slice ops opsn opsc, slice more moren morec] h K :=
 CallA.of_ev (cs := []) Try.func13 (by kernel_rfl) (fun _ _ => Try.call13 _ _) mixed (by kernel_rfl) (by kernel_rfl) k
end Go.Proofs.Ytkcogdmddhkldaa
