import Derived.Test.YtkcogdmddhkldaaEqN
namespace Go.Proofs.Ytkcogdmddhkldaa
open Go Go.Sy Go.Value
set_option linter.unusedVariables false
set_option maxRecDepth 100000
def L_law15_LenderDoes_0 (lines : Option Addr) (linesn : Nat) (linesc : Nat) (ops : Option Addr) (opsn : Nat) (opsc : Nat) (l : Option Addr) (r : Option Addr) (i : Int) (h : Heap) (K : Value → Heap → Prop) : Prop :=
 LoopAt Try.prog Try.f7 7 (loopK Try.f7 0) (sp 171 [(0, slice lines linesn linesc), (2, slice ops opsn opsc), (7, pointer l), (9, pointer r), (11, int IntKind.i64 i)]) h K
def L_law15_LenderDoes_1024 (lines : Option Addr) (linesn : Nat) (linesc : Nat) (ops : Option Addr) (opsn : Nat) (opsc : Nat) (l : Option Addr) (r : Option Addr) (i : Int) (x : Nat) (h : Heap) (K : Value → Heap → Prop) : Prop :=
 CutAt Try.prog Try.f7 7 (cutK Try.f7 24) (sp 171 [(0, slice lines linesn linesc), (2, slice ops opsn opsc), (7, pointer l), (9, pointer r), (11, int IntKind.i64 i), (12, pointer (some { block := x, off := 0 }))]) h K
def L_law15_LenderDoes_0T (lines : Option Addr) (linesn : Nat) (linesc : Nat) (ops : Option Addr) (opsn : Nat) (opsc : Nat) (l : Option Addr) (r : Option Addr) (i : Int) (h : Heap) (K : Value → Heap → Prop) : Prop :=
 Br (!Option.isNone l)
 (Br (decide (i < (↑opsn : Int)))
 (0 ≤ i ∧
 i < (↑opsn : Int) ∧
 withAddr ops fun (b o : Nat) =>
 ∃ (n : Int),
 Heap.cell h b (o + Int.toNat i * 5) = some (int IntKind.i64 n) ∧
 ∃ (n_1 : Int),
 Heap.cell h b (o + Int.toNat i * 5 + 1) = some (int IntKind.i64 n_1) ∧
 ∃ (n_2 : Int),
 Heap.cell h b (o + Int.toNat i * 5 + 2) = some (int IntKind.i64 n_2) ∧
 ∃ (n_3 : Int),
 Heap.cell h b (o + Int.toNat i * 5 + 3) = some (int IntKind.i64 n_3) ∧
 ∃ (a : Option Addr),
 ∃ (n_4 : Nat),
 ∃ (m : Nat),
 Heap.cell h b (o + Int.toNat i * 5 + 4) = some (slice a n_4 m) ∧
 newB h [int IntKind.i64 0, int IntKind.i64 0, int IntKind.i64 0, int IntKind.i64 0, slice none 0 0] 56 fun (r_1 : Nat) (h : Heap) =>
 Heap.canSt h r_1 0 5 ∧
 ∃ (n_5 : Int),
 Heap.cell (Heap.setN h r_1 0 [int IntKind.i64 n, int IntKind.i64 n_1, int IntKind.i64 n_2, int IntKind.i64 n_3, slice a n_4 m]) r_1 0 = some (int IntKind.i64 n_5) ∧
 Br (n_5 == 0)
 (∃ (n_6 : Int),
 Heap.cell (Heap.setN h r_1 0 [int IntKind.i64 n, int IntKind.i64 n_1, int IntKind.i64 n_2, int IntKind.i64 n_3, slice a n_4 m]) r_1 1 = some (int IntKind.i64 n_6) ∧
 ∃ (n_7 : Int),
 Heap.cell (Heap.setN h r_1 0 [int IntKind.i64 n, int IntKind.i64 n_1, int IntKind.i64 n_2, int IntKind.i64 n_3, slice a n_4 m]) r_1 3 = some (int IntKind.i64 n_7) ∧
 CallA Try.prog fn_plender_Lenders_Draw [pointer l, int IntKind.i64 n_6, int IntKind.i64 n_7]
 (Heap.setN h r_1 0 [int IntKind.i64 n, int IntKind.i64 n_1, int IntKind.i64 n_2, int IntKind.i64 n_3, slice a n_4 m]) fun (v : Value) (h : Heap) =>
 ∃ (a : Option Addr),
 ∃ (n : Nat),
 ∃ (m : Nat),
 ∃ (n_8 : Int),
 ∃ (n_9 : Int),
 v = tuple #[slice a n m, int IntKind.i64 n_8, int IntKind.i64 n_9] ∧
 ∃ (n_10 : Int),
 Heap.cell h r_1 1 = some (int IntKind.i64 n_10) ∧
 ∃ (n_11 : Int),
 Heap.cell h r_1 3 = some (int IntKind.i64 n_11) ∧
 CallA Try.prog fn_pref15_Lenders_Draw [pointer r, int IntKind.i64 n_10, int IntKind.i64 n_11] h fun (v : Value) (h : Heap) =>
 ∃ (a_1 : Option Addr),
 ∃ (n_12 : Nat),
 ∃ (m_1 : Nat),
 ∃ (n_13 : Int),
 ∃ (n_14 : Int),
 v = tuple #[slice a_1 n_12 m_1, int IntKind.i64 n_13, int IntKind.i64 n_14] ∧
 CallA Try.prog fn_law15_own [slice a n m] h fun (v : Value) (h : Heap) =>
 ∃ (a : Option Addr),
 ∃ (n : Nat),
 ∃ (m : Nat),
 v = slice a n m ∧
 CallA Try.prog fn_ref15_Same [slice a n m, slice a_1 n_12 m_1] h fun (v : Value) (h : Heap) =>
 ∃ (b : Bool),
 v = Value.bool b ∧
 Br (!b) (Ret h K (Value.bool false))
 (Br (n_8 != n_13) (Ret h K (Value.bool false))
 (Br (n_9 != n_14) (Ret h K (Value.bool false)) (L_law15_LenderDoes_1024 lines linesn linesc ops opsn opsc l r i r_1 h K))))
 (Br (n_5 == 1)
 (∃ (n_6 : Int),
 Heap.cell (Heap.setN h r_1 0 [int IntKind.i64 n, int IntKind.i64 n_1, int IntKind.i64 n_2, int IntKind.i64 n_3, slice a n_4 m]) r_1 1 = some (int IntKind.i64 n_6) ∧
 ∃ (a_1 : Option Addr),
 ∃ (n_7 : Nat),
 ∃ (m_1 : Nat),
 Heap.cell (Heap.setN h r_1 0 [int IntKind.i64 n, int IntKind.i64 n_1, int IntKind.i64 n_2, int IntKind.i64 n_3, slice a n_4 m]) r_1 4 = some (slice a_1 n_7 m_1) ∧
 ∃ (n_8 : Int),
 Heap.cell (Heap.setN h r_1 0 [int IntKind.i64 n, int IntKind.i64 n_1, int IntKind.i64 n_2, int IntKind.i64 n_3, slice a n_4 m]) r_1 1 =
 some (int IntKind.i64 n_8) ∧
 ∃ (a_2 : Option Addr),
 ∃ (n_9 : Nat),
 ∃ (m_2 : Nat),
 Heap.cell (Heap.setN h r_1 0 [int IntKind.i64 n, int IntKind.i64 n_1, int IntKind.i64 n_2, int IntKind.i64 n_3, slice a n_4 m]) r_1 4 =
 some (slice a_2 n_9 m_2) ∧
 CallA Try.prog fn_plender_Lenders_Give [pointer l, int IntKind.i64 n_6, slice a_1 n_7 m_1]
 (Heap.setN h r_1 0 [int IntKind.i64 n, int IntKind.i64 n_1, int IntKind.i64 n_2, int IntKind.i64 n_3, slice a n_4 m])
 fun (v : Value) (h_1 : Heap) =>
 ∃ (n_10 : Int),
 v = int IntKind.i64 n_10 ∧
 (Heap.le (Heap.setN h r_1 0 [int IntKind.i64 n, int IntKind.i64 n_1, int IntKind.i64 n_2, int IntKind.i64 n_3, slice a n_4 m]) h_1 ∨
 Keeps [r_1, r_1] (Heap.setN h r_1 0 [int IntKind.i64 n, int IntKind.i64 n_1, int IntKind.i64 n_2, int IntKind.i64 n_3, slice a n_4 m])
 h_1) ∧
 CallA Try.prog fn_law15_own [slice a_2 n_9 m_2] h_1 fun (v : Value) (h : Heap) =>
 ∃ (a : Option Addr),
 ∃ (n : Nat),
 ∃ (m : Nat),
 v = slice a n m ∧
 (Heap.le h_1 h ∨ Keeps [r_1] h_1 h) ∧
 CallA Try.prog fn_pref15_Lenders_Give [pointer r, int IntKind.i64 n_8, slice a n m] h fun (v : Value) (h : Heap) =>
 ∃ (n : Int),
 v = int IntKind.i64 n ∧ Br (n_10 != n) (Ret h K (Value.bool false)) (L_law15_LenderDoes_1024 lines linesn linesc ops opsn opsc l r i r_1 h K))
 (∃ (n_6 : Int),
 Heap.cell (Heap.setN h r_1 0 [int IntKind.i64 n, int IntKind.i64 n_1, int IntKind.i64 n_2, int IntKind.i64 n_3, slice a n_4 m]) r_1 2 = some (int IntKind.i64 n_6) ∧
 ∃ (n_7 : Int),
 Heap.cell (Heap.setN h r_1 0 [int IntKind.i64 n, int IntKind.i64 n_1, int IntKind.i64 n_2, int IntKind.i64 n_3, slice a n_4 m]) r_1 2 = some (int IntKind.i64 n_7) ∧
 CallA Try.prog fn_plender_Lenders_Fail [pointer l, int IntKind.i64 n_6]
 (Heap.setN h r_1 0 [int IntKind.i64 n, int IntKind.i64 n_1, int IntKind.i64 n_2, int IntKind.i64 n_3, slice a n_4 m]) fun (v : Value) (h_1 : Heap) =>
 ∃ (n_8 : Int),
 v = int IntKind.i64 n_8 ∧
 (Heap.le (Heap.setN h r_1 0 [int IntKind.i64 n, int IntKind.i64 n_1, int IntKind.i64 n_2, int IntKind.i64 n_3, slice a n_4 m]) h_1 ∨
 Keeps [r_1] (Heap.setN h r_1 0 [int IntKind.i64 n, int IntKind.i64 n_1, int IntKind.i64 n_2, int IntKind.i64 n_3, slice a n_4 m]) h_1) ∧
 CallA Try.prog fn_pref15_Lenders_Fail [pointer r, int IntKind.i64 n_7] h_1 fun (v : Value) (h : Heap) =>
 ∃ (n : Int), v = int IntKind.i64 n ∧ Br (n_8 != n) (Ret h K (Value.bool false)) (L_law15_LenderDoes_1024 lines linesn linesc ops opsn opsc l r i r_1 h K))))
 (Ret h K (Value.bool true)))
 (Ret h K (Value.bool true))
theorem L_law15_LenderDoes_0r (lines : Option Addr) (linesn : Nat) (linesc : Nat) (ops : Option Addr) (opsn : Nat) (opsc : Nat) (l : Option Addr) (r : Option Addr) (i : Int) (h : Heap) (K : Value → Heap → Prop) (k : L_law15_LenderDoes_0T lines linesn linesc ops opsn opsc l r i h K) : L_law15_LenderDoes_0 lines linesn linesc ops opsn opsc l r i h K :=
 LoopAt.of_ev (cs := [24]) Try.func7 mixed (fun junk => by kernel_rfl) k
def L_law15_LenderDoes_1024T (lines : Option Addr) (linesn : Nat) (linesc : Nat) (ops : Option Addr) (opsn : Nat) (opsc : Nat) (l : Option Addr) (r : Option Addr) (i : Int) (x : Nat) (h : Heap) (K : Value → Heap → Prop) : Prop :=
 CallA Try.prog fn_plender_Lenders_Text [pointer l] h fun (v : Value) (h : Heap) =>
 ∃ (s : ByteArray),
 v = string s ∧
 CallA Try.prog fn_pref15_Lenders_Text [pointer r] h fun (v : Value) (h : Heap) =>
 ∃ (s_1 : ByteArray),
 v = string s_1 ∧
 Br (!ByteArray.toList s == ByteArray.toList s_1) (Ret h K (Value.bool false))
 (∃ (n : Int),
 Heap.cell h x 2 = some (int IntKind.i64 n) ∧
 ∃ (n_1 : Int),
 Heap.cell h x 1 = some (int IntKind.i64 n_1) ∧
 ∃ (n_2 : Int),
 Heap.cell h x 2 = some (int IntKind.i64 n_2) ∧
 ∃ (n_3 : Int),
 Heap.cell h x 1 = some (int IntKind.i64 n_3) ∧
 CallA Try.prog fn_plender_Lenders_Left [pointer l, int IntKind.i64 n, int IntKind.i64 n_1] h fun (v : Value) (h_1 : Heap) =>
 ∃ (n : Int),
 v = int IntKind.i64 n ∧
 (Heap.le h h_1 ∨ Keeps [x, x] h h_1) ∧
 CallA Try.prog fn_pref15_Lenders_Left [pointer r, int IntKind.i64 n_2, int IntKind.i64 n_3] h_1 fun (v : Value) (h : Heap) =>
 ∃ (n_4 : Int),
 v = int IntKind.i64 n_4 ∧
 Br (n != n_4) (Ret h K (Value.bool false))
 (∃ (n : Int),
 Heap.cell h x 2 = some (int IntKind.i64 n) ∧
 ∃ (n_5 : Int),
 Heap.cell h x 2 = some (int IntKind.i64 n_5) ∧
 CallA Try.prog fn_plender_Lenders_Failed [pointer l, int IntKind.i64 n] h fun (v : Value) (h_2 : Heap) =>
 ∃ (b : Bool),
 v = Value.bool b ∧
 (Heap.le h h_2 ∨ Keeps [x] h h_2) ∧
 Br (decide (n_5 ≥ 0))
 (∃ (n : Int),
 Heap.cell h_2 x 2 = some (int IntKind.i64 n) ∧
 Br (decide (n < (↑linesn : Int)))
 (withAddr r fun (b_1 o : Nat) =>
 ∃ (a : Option Addr),
 ∃ (n : Nat),
 ∃ (m : Nat),
 Heap.cell h_2 b_1 (o + 1) = some (slice a n m) ∧
 ∃ (n_6 : Int),
 Heap.cell h_2 x 2 = some (int IntKind.i64 n_6) ∧
 0 ≤ n_6 ∧
 n_6 < (↑n : Int) ∧
 withAddr a fun (b_2 o : Nat) =>
 ∃ (b_3 : Bool),
 Heap.cell h_2 b_2 (o + Int.toNat n_6) = some (Value.bool b_3) ∧
 Br (!b == b_3) (Ret h_2 K (Value.bool false))
 (L_law15_LenderDoes_0 lines linesn linesc ops opsn opsc l r (IntKind.wrap IntKind.i64 (i + 1)) h_2 K))
 (Br (!b == false) (Ret h_2 K (Value.bool false)) (L_law15_LenderDoes_0 lines linesn linesc ops opsn opsc l r (IntKind.wrap IntKind.i64 (i + 1)) h_2 K)))
 (Br (!b == false) (Ret h_2 K (Value.bool false)) (L_law15_LenderDoes_0 lines linesn linesc ops opsn opsc l r (IntKind.wrap IntKind.i64 (i + 1)) h_2 K))))
theorem L_law15_LenderDoes_1024r (lines : Option Addr) (linesn : Nat) (linesc : Nat) (ops : Option Addr) (opsn : Nat) (opsc : Nat) (l : Option Addr) (r : Option Addr) (i : Int) (x : Nat) (h : Heap) (K : Value → Heap → Prop) (k : L_law15_LenderDoes_1024T lines linesn linesc ops opsn opsc l r i x h K) : L_law15_LenderDoes_1024 lines linesn linesc ops opsn opsc l r i x h K :=
 CutAt.of_ev (cs := [24]) Try.func7 mixed (fun junk => by kernel_rfl) k
def F_law15_LenderDoesT (lines : Option Addr) (linesn : Nat) (linesc : Nat) (currencies : Int) (ops : Option Addr) (opsn : Nat) (opsc : Nat) (h : Heap) (K : Value → Heap → Prop) : Prop :=
 CallA Try.prog fn_law15_awake [] h fun (v : Value) (h : Heap) =>
 ∃ (b : Bool),
 v = Value.bool b ∧
 Br (!b) (Ret h K (Value.bool false))
 (CallA Try.prog fn_law15_large [slice lines linesn linesc, slice ops opsn opsc] h fun (v : Value) (h : Heap) =>
 ∃ (b : Bool),
 v = Value.bool b ∧
 Br b (Ret h K (Value.bool true))
 (CallA Try.prog fn_lender_New [slice lines linesn linesc, int IntKind.i64 currencies] h fun (v : Value) (h : Heap) =>
 ∃ (a : Option Addr),
 ∃ (n : Int),
 v = tuple #[pointer a, int IntKind.i64 n] ∧
 CallA Try.prog fn_ref15_New [slice lines linesn linesc, int IntKind.i64 currencies] h fun (v : Value) (h : Heap) =>
 ∃ (a_1 : Option Addr),
 ∃ (n_1 : Int),
 v = tuple #[pointer a_1, int IntKind.i64 n_1] ∧
 Br (n != n_1) (Ret h K (Value.bool false)) (Br (!Option.isNone a == Option.isNone a_1) (Ret h K (Value.bool false)) (L_law15_LenderDoes_0 lines linesn linesc ops opsn opsc a a_1 0 h K))))
theorem F_law15_LenderDoes (lines : Option Addr) (linesn : Nat) (linesc : Nat) (currencies : Int) (ops : Option Addr) (opsn : Nat) (opsc : Nat) (h : Heap) (K : Value → Heap → Prop) (k : F_law15_LenderDoesT lines linesn linesc currencies ops opsn opsc h K) : CallA Try.prog fn_law15_LenderDoes [slice lines linesn linesc, int IntKind.i64 currencies, slice ops opsn opsc] h K :=
 CallA.of_ev (cs := [24]) Try.func7 (by kernel_rfl) (fun _ _ => Try.call7 _ _) mixed (by kernel_rfl) (by kernel_rfl) k
def F_law15_LenderReadsT (text : ByteArray) (h : Heap) (K : Value → Heap → Prop) : Prop :=
 CallA Try.prog fn_law15_awake [] h fun (v : Value) (h : Heap) =>
 ∃ (b : Bool),
 v = Value.bool b ∧
 Br (!b) (Ret h K (Value.bool false))
 (Br (decide ((↑(ByteArray.size text) : Int) > 1000)) (Ret h K (Value.bool true))
 (CallA Try.prog fn_lender_Read [string text] h fun (v : Value) (h : Heap) =>
 ∃ (a : Option Addr),
 ∃ (n : Int),
 v = tuple #[pointer a, int IntKind.i64 n] ∧
 CallA Try.prog fn_ref15_Read [string text] h fun (v : Value) (h : Heap) =>
 ∃ (a_1 : Option Addr),
 ∃ (n_1 : Int),
 v = tuple #[pointer a_1, int IntKind.i64 n_1] ∧
 Br (n != n_1) (Ret h K (Value.bool false))
 (Br (!Option.isNone a == Option.isNone a_1) (Ret h K (Value.bool false))
 (Br (Option.isNone a) (Ret h K (Value.bool true))
 (CallA Try.prog fn_plender_Lenders_Text [pointer a] h fun (v : Value) (h : Heap) =>
 ∃ (s : ByteArray),
 v = string s ∧
 Br (ByteArray.toList s == ByteArray.toList text)
 (CallA Try.prog fn_pref15_Lenders_Text [pointer a_1] h fun (v : Value) (h : Heap) => ∃ (s : ByteArray), v = string s ∧ Ret h K (Value.bool (ByteArray.toList s == ByteArray.toList text)))
 (Ret h K (Value.bool false)))))))
theorem F_law15_LenderReads (text : ByteArray) (h : Heap) (K : Value → Heap → Prop) (k : F_law15_LenderReadsT text h K) : CallA Try.prog fn_law15_LenderReads [string text] h K :=
 CallA.of_ev (cs := []) Try.func8 (by kernel_rfl) (fun _ _ => Try.call8 _ _) mixed (by kernel_rfl) (by kernel_rfl) k
end Go.Proofs.Ytkcogdmddhkldaa
