import Derived.Test.YtkcogdmddhkldaaEqN
namespace Go.Proofs.Ytkcogdmddhkldaa
open Go Go.Sy Go.Value
set_option linter.unusedVariables false
set_option maxRecDepth 100000
def L_law08_LedgerDoes_0 (currencies : Int) (ops : Option Addr) (opsn : Nat) (opsc : Nat) (l : Option Addr) (r : Option Addr) (i : Int) (h : Heap) (K : Value → Heap → Prop) : Prop :=
 LoopAt Try.prog Try.f10 10 (loopK Try.f10 0) (sp 149 [(1, int IntKind.i64 currencies), (2, slice ops opsn opsc), (7, pointer l), (9, pointer r), (11, int IntKind.i64 i)]) h K
def L_law08_LedgerDoes_1023 (currencies : Int) (ops : Option Addr) (opsn : Nat) (opsc : Nat) (l : Option Addr) (r : Option Addr) (i : Int) (x : Nat) (g : Int) (h' : Int) (h : Heap) (K : Value → Heap → Prop) : Prop :=
 CutAt Try.prog Try.f10 10 (cutK Try.f10 23) (sp 149 [(1, int IntKind.i64 currencies), (2, slice ops opsn opsc), (7, pointer l), (9, pointer r), (11, int IntKind.i64 i), (12, pointer (some { block := x, off := 0 })), (13, int IntKind.i64 g), (14, int IntKind.i64 h')]) h K
def L_law08_LedgerDoes_1025 (currencies : Int) (ops : Option Addr) (opsn : Nat) (opsc : Nat) (l : Option Addr) (r : Option Addr) (i : Int) (h : Heap) (K : Value → Heap → Prop) : Prop :=
 CutAt Try.prog Try.f10 10 (cutK Try.f10 25) (sp 149 [(1, int IntKind.i64 currencies), (2, slice ops opsn opsc), (7, pointer l), (9, pointer r), (11, int IntKind.i64 i)]) h K
def L_law08_LedgerDoes_1 (currencies : Int) (ops : Option Addr) (opsn : Nat) (opsc : Nat) (l : Option Addr) (r : Option Addr) (i : Int) (c : Int) (h : Heap) (K : Value → Heap → Prop) : Prop :=
 LoopAt Try.prog Try.f10 10 (loopK Try.f10 1) (sp 149 [(1, int IntKind.i64 currencies), (2, slice ops opsn opsc), (7, pointer l), (9, pointer r), (11, int IntKind.i64 i), (15, int IntKind.i64 c)]) h K
def L_law08_LedgerDoes_0T (currencies : Int) (ops : Option Addr) (opsn : Nat) (opsc : Nat) (l : Option Addr) (r : Option Addr) (i : Int) (h : Heap) (K : Value → Heap → Prop) : Prop :=
 Br (!Option.isNone l)
 (Br (decide (i < (↑opsn : Int)))
 (0 ≤ i ∧
 i < (↑opsn : Int) ∧
 withAddr ops fun (b o : Nat) =>
 ∃ (n : Int),
 Heap.cell h b (o + Int.toNat i * 7) = some (int IntKind.i64 n) ∧
 ∃ (n_1 : Int),
 Heap.cell h b (o + Int.toNat i * 7 + 1) = some (int IntKind.i64 n_1) ∧
 ∃ (n_2 : Int),
 Heap.cell h b (o + Int.toNat i * 7 + 2) = some (int IntKind.i64 n_2) ∧
 ∃ (n_3 : Int),
 Heap.cell h b (o + Int.toNat i * 7 + 3) = some (int IntKind.i64 n_3) ∧
 ∃ (n_4 : Int),
 Heap.cell h b (o + Int.toNat i * 7 + 4) = some (int IntKind.i64 n_4) ∧
 ∃ (n_5 : Int),
 Heap.cell h b (o + Int.toNat i * 7 + 5) = some (int IntKind.i64 n_5) ∧
 ∃ (a : Option Addr),
 ∃ (n_6 : Nat),
 ∃ (m : Nat),
 Heap.cell h b (o + Int.toNat i * 7 + 6) = some (slice a n_6 m) ∧
 newB h [int IntKind.i64 0, int IntKind.i64 0, int IntKind.i64 0, int IntKind.i64 0, int IntKind.i64 0, int IntKind.i64 0, slice none 0 0] 90 fun (r_1 : Nat) (h : Heap) =>
 Heap.canSt h r_1 0 7 ∧
 ∃ (n_7 : Int),
 Heap.cell (Heap.setN h r_1 0 [int IntKind.i64 n, int IntKind.i64 n_1, int IntKind.i64 n_2, int IntKind.i64 n_3, int IntKind.i64 n_4, int IntKind.i64 n_5, slice a n_6 m])
 r_1 0 =
 some (int IntKind.i64 n_7) ∧
 ∃ (n_8 : Int),
 Heap.cell
 (Heap.setN h r_1 0 [int IntKind.i64 n, int IntKind.i64 n_1, int IntKind.i64 n_2, int IntKind.i64 n_3, int IntKind.i64 n_4, int IntKind.i64 n_5, slice a n_6 m])
 r_1 1 =
 some (int IntKind.i64 n_8) ∧
 ∃ (n_9 : Int),
 Heap.cell
 (Heap.setN h r_1 0
 [int IntKind.i64 n, int IntKind.i64 n_1, int IntKind.i64 n_2, int IntKind.i64 n_3, int IntKind.i64 n_4, int IntKind.i64 n_5, slice a n_6 m])
 r_1 2 =
 some (int IntKind.i64 n_9) ∧
 ∃ (n_10 : Int),
 Heap.cell
 (Heap.setN h r_1 0
 [int IntKind.i64 n, int IntKind.i64 n_1, int IntKind.i64 n_2, int IntKind.i64 n_3, int IntKind.i64 n_4, int IntKind.i64 n_5, slice a n_6 m])
 r_1 3 =
 some (int IntKind.i64 n_10) ∧
 ∃ (n_11 : Int),
 Heap.cell
 (Heap.setN h r_1 0
 [int IntKind.i64 n, int IntKind.i64 n_1, int IntKind.i64 n_2, int IntKind.i64 n_3, int IntKind.i64 n_4, int IntKind.i64 n_5, slice a n_6 m])
 r_1 4 =
 some (int IntKind.i64 n_11) ∧
 ∃ (n_12 : Int),
 Heap.cell
 (Heap.setN h r_1 0
 [int IntKind.i64 n, int IntKind.i64 n_1, int IntKind.i64 n_2, int IntKind.i64 n_3, int IntKind.i64 n_4, int IntKind.i64 n_5, slice a n_6 m])
 r_1 5 =
 some (int IntKind.i64 n_12) ∧
 ∃ (a_1 : Option Addr),
 ∃ (n_13 : Nat),
 ∃ (m_1 : Nat),
 Heap.cell
 (Heap.setN h r_1 0
 [int IntKind.i64 n, int IntKind.i64 n_1, int IntKind.i64 n_2, int IntKind.i64 n_3, int IntKind.i64 n_4, int IntKind.i64 n_5,
 slice a n_6 m])
 r_1 6 =
 some (slice a_1 n_13 m_1) ∧
 CallA Try.prog 48
 [pointer l,
 agg
 #[int IntKind.i64 n_7, int IntKind.i64 n_8, int IntKind.i64 n_9, int IntKind.i64 n_10, int IntKind.i64 n_11, int IntKind.i64 n_12,
 slice a_1 n_13 m_1]]
 (Heap.setN h r_1 0
 [int IntKind.i64 n, int IntKind.i64 n_1, int IntKind.i64 n_2, int IntKind.i64 n_3, int IntKind.i64 n_4, int IntKind.i64 n_5,
 slice a n_6 m])
 fun (v : Value) (h : Heap) =>
 ∃ (n : Int),
 v = int IntKind.i64 n ∧
 ∃ (n_14 : Int),
 Heap.cell h r_1 0 = some (int IntKind.i64 n_14) ∧
 Br (n_14 == 0)
 (∃ (n_15 : Int),
 Heap.cell h r_1 1 = some (int IntKind.i64 n_15) ∧
 ∃ (n_16 : Int),
 Heap.cell h r_1 2 = some (int IntKind.i64 n_16) ∧
 ∃ (n_17 : Int),
 Heap.cell h r_1 4 = some (int IntKind.i64 n_17) ∧
 CallA Try.prog fn_pref08_Ledger_In [pointer r, int IntKind.i64 n_15, int IntKind.i64 n_16, int IntKind.i64 n_17] h
 fun (v : Value) (h : Heap) =>
 ∃ (n_18 : Int), v = int IntKind.i64 n_18 ∧ L_law08_LedgerDoes_1023 currencies ops opsn opsc l r i r_1 n n_18 h K)
 (Br (n_14 == 1)
 (∃ (n_15 : Int),
 Heap.cell h r_1 1 = some (int IntKind.i64 n_15) ∧
 ∃ (n_16 : Int),
 Heap.cell h r_1 2 = some (int IntKind.i64 n_16) ∧
 ∃ (n_17 : Int),
 Heap.cell h r_1 4 = some (int IntKind.i64 n_17) ∧
 CallA Try.prog fn_pref08_Ledger_Out [pointer r, int IntKind.i64 n_15, int IntKind.i64 n_16, int IntKind.i64 n_17] h
 fun (v : Value) (h : Heap) =>
 ∃ (n_18 : Int), v = int IntKind.i64 n_18 ∧ L_law08_LedgerDoes_1023 currencies ops opsn opsc l r i r_1 n n_18 h K)
 (Br (n_14 == 3)
 (∃ (n_15 : Int),
 Heap.cell h r_1 1 = some (int IntKind.i64 n_15) ∧
 ∃ (n_16 : Int),
 Heap.cell h r_1 2 = some (int IntKind.i64 n_16) ∧
 ∃ (n_17 : Int),
 Heap.cell h r_1 3 = some (int IntKind.i64 n_17) ∧
 ∃ (n_18 : Int),
 Heap.cell h r_1 4 = some (int IntKind.i64 n_18) ∧
 ∃ (n_19 : Int),
 Heap.cell h r_1 5 = some (int IntKind.i64 n_19) ∧
 CallA Try.prog 51
 [pointer r, int IntKind.i64 n_15, int IntKind.i64 n_16, int IntKind.i64 n_17, int IntKind.i64 n_18,
 int IntKind.i64 n_19]
 h fun (v : Value) (h : Heap) =>
 ∃ (n_20 : Int), v = int IntKind.i64 n_20 ∧ L_law08_LedgerDoes_1023 currencies ops opsn opsc l r i r_1 n n_20 h K)
 (∃ (a : Option Addr),
 ∃ (n_15 : Nat),
 ∃ (m : Nat),
 Heap.cell h r_1 6 = some (slice a n_15 m) ∧
 CallA Try.prog fn_pref08_Ledger_Post [pointer r, slice a n_15 m] h fun (v : Value) (h : Heap) =>
 ∃ (n_16 : Int), v = int IntKind.i64 n_16 ∧ L_law08_LedgerDoes_1023 currencies ops opsn opsc l r i r_1 n n_16 h K))))
 (Ret h K (Value.bool true)))
 (Ret h K (Value.bool true))
theorem L_law08_LedgerDoes_0r (currencies : Int) (ops : Option Addr) (opsn : Nat) (opsc : Nat) (l : Option Addr) (r : Option Addr) (i : Int) (h : Heap) (K : Value → Heap → Prop) (k : L_law08_LedgerDoes_0T currencies ops opsn opsc l r i h K) : L_law08_LedgerDoes_0 currencies ops opsn opsc l r i h K :=
 LoopAt.of_ev (cs := [23, 25]) Try.func10 mixed (fun junk => by kernel_rfl) k
def L_law08_LedgerDoes_1023T (currencies : Int) (ops : Option Addr) (opsn : Nat) (opsc : Nat) (l : Option Addr) (r : Option Addr) (i : Int) (x : Nat) (g : Int) (h' : Int) (h : Heap) (K : Value → Heap → Prop) : Prop :=
 Br (g != h') (Ret h K (Value.bool false))
 (CallA Try.prog fn_pledger_Ledger_Text [pointer l] h fun (v : Value) (h : Heap) =>
 ∃ (s : ByteArray),
 v = string s ∧
 CallA Try.prog fn_pref08_Ledger_Text [pointer r] h fun (v : Value) (h : Heap) =>
 ∃ (s_1 : ByteArray),
 v = string s_1 ∧
 Br (!ByteArray.toList s == ByteArray.toList s_1) (Ret h K (Value.bool false))
 (∃ (n : Int),
 Heap.cell h x 1 = some (int IntKind.i64 n) ∧
 ∃ (n_1 : Int),
 Heap.cell h x 2 = some (int IntKind.i64 n_1) ∧
 ∃ (n_2 : Int),
 Heap.cell h x 1 = some (int IntKind.i64 n_2) ∧
 ∃ (n_3 : Int),
 Heap.cell h x 2 = some (int IntKind.i64 n_3) ∧
 CallA Try.prog fn_pledger_Ledger_Get [pointer l, int IntKind.i64 n, int IntKind.i64 n_1] h fun (v : Value) (h_1 : Heap) =>
 ∃ (n : Int),
 v = int IntKind.i64 n ∧
 (Heap.le h h_1 ∨ Keeps [x, x] h h_1) ∧
 CallA Try.prog fn_pref08_Ledger_Get [pointer r, int IntKind.i64 n_2, int IntKind.i64 n_3] h_1 fun (v : Value) (h : Heap) =>
 ∃ (n_4 : Int), v = int IntKind.i64 n_4 ∧ Br (n != n_4) (Ret h K (Value.bool false)) (L_law08_LedgerDoes_1025 currencies ops opsn opsc l r i h K)))
theorem L_law08_LedgerDoes_1023r (currencies : Int) (ops : Option Addr) (opsn : Nat) (opsc : Nat) (l : Option Addr) (r : Option Addr) (i : Int) (x : Nat) (g : Int) (h' : Int) (h : Heap) (K : Value → Heap → Prop) (k : L_law08_LedgerDoes_1023T currencies ops opsn opsc l r i x g h' h K) : L_law08_LedgerDoes_1023 currencies ops opsn opsc l r i x g h' h K :=
 CutAt.of_ev (cs := [23, 25]) Try.func10 mixed (fun junk => by kernel_rfl) k
def L_law08_LedgerDoes_1025T (currencies : Int) (ops : Option Addr) (opsn : Nat) (opsc : Nat) (l : Option Addr) (r : Option Addr) (i : Int) (h : Heap) (K : Value → Heap → Prop) : Prop :=
 L_law08_LedgerDoes_1 currencies ops opsn opsc l r i (-1) h K
theorem L_law08_LedgerDoes_1025r (currencies : Int) (ops : Option Addr) (opsn : Nat) (opsc : Nat) (l : Option Addr) (r : Option Addr) (i : Int) (h : Heap) (K : Value → Heap → Prop) (k : L_law08_LedgerDoes_1025T currencies ops opsn opsc l r i h K) : L_law08_LedgerDoes_1025 currencies ops opsn opsc l r i h K :=
 CutAt.of_ev (cs := [23, 25]) Try.func10 mixed (fun junk => by kernel_rfl) k
def L_law08_LedgerDoes_1T (currencies : Int) (ops : Option Addr) (opsn : Nat) (opsc : Nat) (l : Option Addr) (r : Option Addr) (i : Int) (c : Int) (h : Heap) (K : Value → Heap → Prop) : Prop :=
 Br (decide (c ≤ currencies))
 (Br (decide (c ≥ 0))
 (Br (decide (c < currencies))
 (withAddr r fun (b o : Nat) =>
 ∃ (a : Option Addr),
 ∃ (n : Nat),
 ∃ (m : Nat),
 Heap.cell h b (o + 1) = some (slice a n m) ∧
 0 ≤ c ∧
 c < (↑n : Int) ∧
 withAddr a fun (b o : Nat) =>
 ∃ (n : Int),
 Heap.cell h b (o + Int.toNat c) = some (int IntKind.i64 n) ∧
 CallA Try.prog fn_pledger_Ledger_Nostro [pointer l, int IntKind.i64 c] h fun (v : Value) (h : Heap) =>
 ∃ (n_1 : Int), v = int IntKind.i64 n_1 ∧ Br (n_1 != n) (Ret h K (Value.bool false)) (L_law08_LedgerDoes_1 currencies ops opsn opsc l r i (IntKind.wrap IntKind.i64 (c + 1)) h K))
 (CallA Try.prog fn_pledger_Ledger_Nostro [pointer l, int IntKind.i64 c] h fun (v : Value) (h : Heap) =>
 ∃ (n : Int), v = int IntKind.i64 n ∧ Br (n != 0) (Ret h K (Value.bool false)) (L_law08_LedgerDoes_1 currencies ops opsn opsc l r i (IntKind.wrap IntKind.i64 (c + 1)) h K)))
 (CallA Try.prog fn_pledger_Ledger_Nostro [pointer l, int IntKind.i64 c] h fun (v : Value) (h : Heap) =>
 ∃ (n : Int), v = int IntKind.i64 n ∧ Br (n != 0) (Ret h K (Value.bool false)) (L_law08_LedgerDoes_1 currencies ops opsn opsc l r i (IntKind.wrap IntKind.i64 (c + 1)) h K)))
 (L_law08_LedgerDoes_0 currencies ops opsn opsc l r (IntKind.wrap IntKind.i64 (i + 1)) h K)
theorem L_law08_LedgerDoes_1r (currencies : Int) (ops : Option Addr) (opsn : Nat) (opsc : Nat) (l : Option Addr) (r : Option Addr) (i : Int) (c : Int) (h : Heap) (K : Value → Heap → Prop) (k : L_law08_LedgerDoes_1T currencies ops opsn opsc l r i c h K) : L_law08_LedgerDoes_1 currencies ops opsn opsc l r i c h K :=
 LoopAt.of_ev (cs := [23, 25]) Try.func10 mixed (fun junk => by kernel_rfl) k
def F_law08_LedgerDoesT (members : Int) (currencies : Int) (ops : Option Addr) (opsn : Nat) (opsc : Nat) (h : Heap) (K : Value → Heap → Prop) : Prop :=
 CallA Try.prog fn_law08_awake [] h fun (v : Value) (h : Heap) =>
 ∃ (b : Bool),
 v = Value.bool b ∧
 Br (!b) (Ret h K (Value.bool false))
 (CallA Try.prog fn_law08_large [slice ops opsn opsc] h fun (v : Value) (h : Heap) =>
 ∃ (b : Bool),
 v = Value.bool b ∧
 Br b (Ret h K (Value.bool true))
 (CallA Try.prog fn_ledger_New [int IntKind.i64 members, int IntKind.i64 currencies] h fun (v : Value) (h : Heap) =>
 ∃ (a : Option Addr),
 ∃ (n : Int),
 v = tuple #[pointer a, int IntKind.i64 n] ∧
 CallA Try.prog fn_ref08_New [int IntKind.i64 members, int IntKind.i64 currencies] h fun (v : Value) (h : Heap) =>
 ∃ (a_1 : Option Addr),
 ∃ (n_1 : Int),
 v = tuple #[pointer a_1, int IntKind.i64 n_1] ∧
 Br (n != n_1) (Ret h K (Value.bool false)) (Br (!Option.isNone a == Option.isNone a_1) (Ret h K (Value.bool false)) (L_law08_LedgerDoes_0 currencies ops opsn opsc a a_1 0 h K))))
theorem F_law08_LedgerDoes (members : Int) (currencies : Int) (ops : Option Addr) (opsn : Nat) (opsc : Nat) (h : Heap) (K : Value → Heap → Prop) (k : F_law08_LedgerDoesT members currencies ops opsn opsc h K) : CallA Try.prog fn_law08_LedgerDoes [int IntKind.i64 members, int IntKind.i64 currencies, slice ops opsn opsc] h K :=
 CallA.of_ev (cs := [23, 25]) Try.func10 (by kernel_rfl) (fun _ _ => Try.call10 _ _) mixed (by kernel_rfl) (by kernel_rfl) k
end Go.Proofs.Ytkcogdmddhkldaa
