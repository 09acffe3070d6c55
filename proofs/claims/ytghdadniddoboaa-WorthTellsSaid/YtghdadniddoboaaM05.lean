import Derived.Test.YtghdadniddoboaaM03
namespace Go.Proofs.Ytghdadniddoboaa
open Go Go.Sy Go.Value
set_option linter.unusedVariables false
set_option maxRecDepth 100000
def L_worth_New_0 (w : Nat) (t34 : Int) (t35 : Int) (h : Heap) (K : Value → Heap → Prop) : Prop :=
 LoopAt Try.prog Try.f28 28 (loopK Try.f28 0) (sp 43 [(9, pointer (some { block := w, off := 0 })), (34, int IntKind.i64 t34), (35, int IntKind.i64 t35)]) h K
def L_worth_New_0T (w : Nat) (t34 : Int) (t35 : Int) (h : Heap) (K : Value → Heap → Prop) : Prop :=
 Br (decide (t35 < t34)) (CallA Try.prog fn_pworth_Worths_Moved [pointer (some { block := w, off := 0 }), int IntKind.i64 t35] h fun (v : Value) (h : Heap) => v = tuple #[] ∧ L_worth_New_0 w t34 (IntKind.wrap IntKind.i64 (t35 + 1)) h K)
 (Ret h K (tuple #[pointer (some { block := w, off := 0 }), int IntKind.i64 0]))
theorem L_worth_New_0r (w : Nat) (t34 : Int) (t35 : Int) (h : Heap) (K : Value → Heap → Prop) (k : L_worth_New_0T w t34 t35 h K) : L_worth_New_0 w t34 t35 h K :=
 LoopAt.of_ev (cs := []) Try.func28 mixed (fun junk => by kernel_rfl) k
def F_worth_NewT (t : Option Addr) (tn : Nat) (tc : Nat) (l : Option Addr) (h : Heap) (K : Value → Heap → Prop) : Prop :=
 CallA Try.prog fn_table_Check [slice t tn tc] h fun (v : Value) (h : Heap) =>
 ∃ (n : Int),
 v = int IntKind.i64 n ∧
 Br (n != 0) (Ret h K (tuple #[pointer none, int IntKind.i64 n]))
 (Br (Option.isNone l) (Ret h K (tuple #[pointer none, int IntKind.i64 1]))
 (CallA Try.prog fn_pledger_Ledger_Size [pointer l] h fun (v : Value) (h : Heap) =>
 ∃ (n : Int),
 ∃ (n_1 : Int),
 v = tuple #[int IntKind.i64 n, int IntKind.i64 n_1] ∧
 Br (n_1 != (↑tn : Int)) (Ret h K (tuple #[pointer none, int IntKind.i64 1]))
 (0 ≤ n ∧
 n ≤ n ∧
 n ≤ 281474976710656 ∧
 104 * n ≤ 281474976710656 ∧
 CallA Try.prog fn_slices_Clone_api_Currency_api_Currency [slice t tn tc] h fun (v : Value) (h : Heap) =>
 ∃ (a : Option Addr),
 ∃ (n_2 : Nat),
 ∃ (m : Nat),
 v = slice a n_2 m ∧
 0 ≤ n ∧
 n ≤ n ∧
 n ≤ 281474976710656 ∧
 104 * n ≤ 281474976710656 ∧
 newB h (repL (Int.toNat n) [slice none 0 0, slice none 0 0, slice none 0 0, int IntKind.i64 0, int IntKind.i64 0, int IntKind.i64 0, int IntKind.i64 0]) 139
 fun (r : Nat) (h : Heap) =>
 newB h [slice a n_2 m, pointer l, slice (some { block := r, off := 0 }) (Int.toNat n) (Int.toNat n)] 131 fun (r : Nat) (h : Heap) => L_worth_New_0 r n 0 h K)))
theorem F_worth_New (t : Option Addr) (tn : Nat) (tc : Nat) (l : Option Addr) (h : Heap) (K : Value → Heap → Prop) (k : F_worth_NewT t tn tc l h K) : CallA Try.prog fn_worth_New [slice t tn tc, pointer l] h K :=
 CallA.of_ev (cs := []) Try.func28 (by kernel_rfl) (fun _ _ => Try.call28 _ _) mixed (by kernel_rfl) (by kernel_rfl) k
def L_pworth_Worths_Moved_0 (w : Option Addr) (member : Int) (balance : Option Addr) (balancen : Nat) (balancec : Nat) (t14 : Int) (t15 : Int) (h : Heap) (K : Value → Heap → Prop) : Prop :=
 LoopAt Try.prog Try.f79 79 (loopK Try.f79 0) (sp 38 [(0, pointer w), (1, int IntKind.i64 member), (4, slice balance balancen balancec), (14, int IntKind.i64 t14), (15, int IntKind.i64 t15)]) h K
def L_pworth_Worths_Moved_0T (w : Option Addr) (member : Int) (balance : Option Addr) (balancen : Nat) (balancec : Nat) (t14 : Int) (t15 : Int) (h : Heap) (K : Value → Heap → Prop) : Prop :=
 Br (decide (t15 < t14))
 (withAddr w fun (b o : Nat) =>
 ∃ (a : Option Addr),
 Heap.cell h b (o + 1) = some (pointer a) ∧
 CallA Try.prog fn_pledger_Ledger_Get [pointer a, int IntKind.i64 member, int IntKind.i64 t15] h fun (v : Value) (h : Heap) =>
 ∃ (n : Int),
 v = int IntKind.i64 n ∧
 newB h [int IntKind.i64 n] 2 fun (r : Nat) (h : Heap) =>
 AppA [int IntKind.i64 0] 2 h balance balancen balancec 1 (some { block := r, off := 0 }) fun (ap : Option Addr) (cp : Nat) (h : Heap) =>
 L_pworth_Worths_Moved_0 w member ap (balancen + 1) cp t14 (IntKind.wrap IntKind.i64 (t15 + 1)) h K)
 (withAddr w fun (b o : Nat) =>
 ∃ (a : Option Addr),
 ∃ (n : Nat),
 ∃ (m : Nat),
 Heap.cell h b (o + 2) = some (slice a n m) ∧
 CallA Try.prog fn_pworth_Worths_account [pointer w, slice balance balancen balancec] h fun (v : Value) (h_1 : Heap) =>
 ∃ (a_1 : Option Addr),
 ∃ (n_1 : Nat),
 ∃ (m : Nat),
 ∃ (a_2 : Option Addr),
 ∃ (n_2 : Nat),
 ∃ (m_1 : Nat),
 ∃ (a_3 : Option Addr),
 ∃ (n_3 : Nat),
 ∃ (m_2 : Nat),
 ∃ (n_4 : Int),
 ∃ (n_5 : Int),
 ∃ (n_6 : Int),
 ∃ (n_7 : Int),
 v = agg #[slice a_1 n_1 m, slice a_2 n_2 m_1, slice a_3 n_3 m_2, int IntKind.i64 n_4, int IntKind.i64 n_5, int IntKind.i64 n_6, int IntKind.i64 n_7] ∧
 (Heap.le h h_1 ∨ Keeps [b] h h_1) ∧
 0 ≤ member ∧
 member < (↑n : Int) ∧
 withAddr a fun (b o : Nat) =>
 Heap.canSt h_1 b (o + Int.toNat member * 7) 7 ∧
 Ret
 (Heap.setN h_1 b (o + Int.toNat member * 7)
 [slice a_1 n_1 m, slice a_2 n_2 m_1, slice a_3 n_3 m_2, int IntKind.i64 n_4, int IntKind.i64 n_5, int IntKind.i64 n_6, int IntKind.i64 n_7])
 K (tuple #[]))
theorem L_pworth_Worths_Moved_0r (w : Option Addr) (member : Int) (balance : Option Addr) (balancen : Nat) (balancec : Nat) (t14 : Int) (t15 : Int) (h : Heap) (K : Value → Heap → Prop) (k : L_pworth_Worths_Moved_0T w member balance balancen balancec t14 t15 h K) : L_pworth_Worths_Moved_0 w member balance balancen balancec t14 t15 h K :=
 LoopAt.of_ev (cs := []) Try.func79 mixed (fun junk => by kernel_rfl) k
def F_pworth_Worths_MovedT (w : Option Addr) (member : Int) (h : Heap) (K : Value → Heap → Prop) : Prop :=
 CallA Try.prog fn_pworth_Worths_has [pointer w, int IntKind.i64 member] h fun (v : Value) (h : Heap) =>
 ∃ (b : Bool),
 v = Value.bool b ∧ Br (!b) (Ret h K (tuple #[])) (withAddr w fun (b o : Nat) => ∃ (a : Option Addr), ∃ (n : Nat), ∃ (m : Nat), Heap.cell h b o = some (slice a n m) ∧ L_pworth_Worths_Moved_0 w member none 0 0 (↑n : Int) 0 h K)
theorem F_pworth_Worths_Moved (w : Option Addr) (member : Int) (h : Heap) (K : Value → Heap → Prop) (k : F_pworth_Worths_MovedT w member h K) : CallA Try.prog fn_pworth_Worths_Moved [pointer w, int IntKind.i64 member] h K :=
 CallA.of_ev (cs := []) Try.func79 (by kernel_rfl) (fun _ _ => Try.call79 _ _) mixed (by kernel_rfl) (by kernel_rfl) k
def L_pworth_Worths_turn_0 (w : Option Addr) (cur : Int) (t16 : Int) (t17 : Int) (h : Heap) (K : Value → Heap → Prop) : Prop :=
 LoopAt Try.prog Try.f92 92 (loopK Try.f92 0) (sp 68 [(0, pointer w), (2, int IntKind.i64 cur), (16, int IntKind.i64 t16), (17, int IntKind.i64 t17)]) h K
def L_pworth_Worths_turn_0T (w : Option Addr) (cur : Int) (t16 : Int) (t17 : Int) (h : Heap) (K : Value → Heap → Prop) : Prop :=
 Br (decide (t17 < t16))
 (withAddr w fun (b o : Nat) =>
 ∃ (a : Option Addr),
 ∃ (n : Nat),
 ∃ (m : Nat),
 Heap.cell h b (o + 2) = some (slice a n m) ∧
 0 ≤ t17 ∧
 t17 < (↑n : Int) ∧
 withAddr a fun (b o : Nat) =>
 ∃ (a : Option Addr),
 ∃ (n : Nat),
 ∃ (m : Nat),
 Heap.cell h b (o + Int.toNat t17 * 7 + 1) = some (slice a n m) ∧
 ∃ (a_1 : Option Addr),
 ∃ (n_1 : Nat),
 ∃ (m : Nat),
 Heap.cell h b (o + Int.toNat t17 * 7 + 2) = some (slice a_1 n_1 m) ∧
 ∃ (a_2 : Option Addr),
 ∃ (n_2 : Nat),
 ∃ (m : Nat),
 Heap.cell h b (o + Int.toNat t17 * 7) = some (slice a_2 n_2 m) ∧
 0 ≤ cur ∧
 cur < (↑n_2 : Int) ∧
 withAddr a_2 fun (b_1 o_1 : Nat) =>
 ∃ (n_3 : Int),
 Heap.cell h b_1 (o_1 + Int.toNat cur) = some (int IntKind.i64 n_3) ∧
 CallA Try.prog fn_pworth_Worths_one [pointer w, int IntKind.i64 cur, int IntKind.i64 n_3] h fun (v : Value) (h_1 : Heap) =>
 ∃ (n_4 : Int),
 ∃ (n_5 : Int),
 ∃ (n_6 : Int),
 ∃ (n_7 : Int),
 v = tuple #[agg #[int IntKind.i64 n_4, int IntKind.i64 n_5], agg #[int IntKind.i64 n_6, int IntKind.i64 n_7]] ∧
 (Heap.le h h_1 ∨ Keeps [b, b] h h_1) ∧
 0 ≤ cur ∧
 cur < (↑n : Int) ∧
 withAddr a fun (b_2 o_2 : Nat) =>
 Heap.canSt h_1 b_2 (o_2 + Int.toNat cur * 2) 2 ∧
 0 ≤ cur ∧
 cur < (↑n_1 : Int) ∧
 withAddr a_1 fun (b_3 o_3 : Nat) =>
 Heap.canSt (Heap.setN h_1 b_2 (o_2 + Int.toNat cur * 2) [int IntKind.i64 n_4, int IntKind.i64 n_5]) b_3 (o_3 + Int.toNat cur * 2) 2 ∧
 ∃ (a : Option Addr),
 ∃ (n : Nat),
 ∃ (m : Nat),
 Heap.cell
 (Heap.setN (Heap.setN h_1 b_2 (o_2 + Int.toNat cur * 2) [int IntKind.i64 n_4, int IntKind.i64 n_5]) b_3
 (o_3 + Int.toNat cur * 2) [int IntKind.i64 n_6, int IntKind.i64 n_7])
 b (o + Int.toNat t17 * 7 + 1) =
 some (slice a n m) ∧
 ∃ (a_3 : Option Addr),
 ∃ (n_8 : Nat),
 ∃ (m_1 : Nat),
 Heap.cell
 (Heap.setN (Heap.setN h_1 b_2 (o_2 + Int.toNat cur * 2) [int IntKind.i64 n_4, int IntKind.i64 n_5]) b_3
 (o_3 + Int.toNat cur * 2) [int IntKind.i64 n_6, int IntKind.i64 n_7])
 b (o + Int.toNat t17 * 7 + 2) =
 some (slice a_3 n_8 m_1) ∧
 CallA Try.prog fn_worth_chain [slice a n m]
 (Heap.setN (Heap.setN h_1 b_2 (o_2 + Int.toNat cur * 2) [int IntKind.i64 n_4, int IntKind.i64 n_5]) b_3
 (o_3 + Int.toNat cur * 2) [int IntKind.i64 n_6, int IntKind.i64 n_7])
 fun (v : Value) (h : Heap) =>
 ∃ (n : Int),
 ∃ (n_9 : Int),
 v = agg #[int IntKind.i64 n, int IntKind.i64 n_9] ∧
 (Heap.le
 (Heap.setN (Heap.setN h_1 b_2 (o_2 + Int.toNat cur * 2) [int IntKind.i64 n_4, int IntKind.i64 n_5]) b_3
 (o_3 + Int.toNat cur * 2) [int IntKind.i64 n_6, int IntKind.i64 n_7])
 h ∨
 Keeps [b]
 (Heap.setN (Heap.setN h_1 b_2 (o_2 + Int.toNat cur * 2) [int IntKind.i64 n_4, int IntKind.i64 n_5]) b_3
 (o_3 + Int.toNat cur * 2) [int IntKind.i64 n_6, int IntKind.i64 n_7])
 h) ∧
 CallA Try.prog fn_worth_chain [slice a_3 n_8 m_1] h fun (v : Value) (h : Heap) =>
 ∃ (n_10 : Int),
 ∃ (n_11 : Int),
 v = agg #[int IntKind.i64 n_10, int IntKind.i64 n_11] ∧
 Heap.canSt h b (o + Int.toNat t17 * 7 + 3) 2 ∧
 Heap.canSt (Heap.setN h b (o + Int.toNat t17 * 7 + 3) [int IntKind.i64 n, int IntKind.i64 n_9]) b
 (o + Int.toNat t17 * 7 + 5) 2 ∧
 L_pworth_Worths_turn_0 w cur t16 (IntKind.wrap IntKind.i64 (t17 + 1))
 (Heap.setN (Heap.setN h b (o + Int.toNat t17 * 7 + 3) [int IntKind.i64 n, int IntKind.i64 n_9]) b
 (o + Int.toNat t17 * 7 + 5) [int IntKind.i64 n_10, int IntKind.i64 n_11])
 K)
 (Ret h K (tuple #[]))
theorem L_pworth_Worths_turn_0r (w : Option Addr) (cur : Int) (t16 : Int) (t17 : Int) (h : Heap) (K : Value → Heap → Prop) (k : L_pworth_Worths_turn_0T w cur t16 t17 h K) : L_pworth_Worths_turn_0 w cur t16 t17 h K :=
 LoopAt.of_ev (cs := []) Try.func92 mixed (fun junk => by kernel_rfl) k
def F_pworth_Worths_turnT (w : Option Addr) (t : Option Addr) (tn : Nat) (tc : Nat) (cur : Int) (h : Heap) (K : Value → Heap → Prop) : Prop :=
 withAddr w fun (b o : Nat) =>
 Heap.canSt h b o 1 ∧
 withAddr w fun (b_1 o_1 : Nat) =>
 ∃ (a : Option Addr), ∃ (n : Nat), ∃ (m : Nat), Heap.cell (Heap.setN h b o [slice t tn tc]) b_1 (o_1 + 2) = some (slice a n m) ∧ L_pworth_Worths_turn_0 w cur (↑n : Int) 0 (Heap.setN h b o [slice t tn tc]) K
theorem F_pworth_Worths_turn (w : Option Addr) (t : Option Addr) (tn : Nat) (tc : Nat) (cur : Int) (h : Heap) (K : Value → Heap → Prop) (k : F_pworth_Worths_turnT w t tn tc cur h K) : CallA Try.prog fn_pworth_Worths_turn [pointer w, slice t tn tc, int IntKind.i64 cur] h K :=
 CallA.of_ev (cs := []) Try.func92 (by kernel_rfl) (fun _ _ => Try.call92 _ _) mixed (by kernel_rfl) (by kernel_rfl) k
def F_pworth_Worths_RateT (w : Option Addr) (cur : Int) (rate : Int) (h : Heap) (K : Value → Heap → Prop) : Prop :=
 withAddr w fun (b o : Nat) =>
 ∃ (a : Option Addr),
 ∃ (n : Nat),
 ∃ (m : Nat),
 Heap.cell h b o = some (slice a n m) ∧
 CallA Try.prog fn_table_WithRate [slice a n m, int IntKind.i64 cur, int IntKind.i64 rate] h fun (v : Value) (h : Heap) =>
 ∃ (a : Option Addr),
 ∃ (n : Nat),
 ∃ (m : Nat),
 ∃ (n_1 : Int),
 v = tuple #[slice a n m, int IntKind.i64 n_1] ∧
 Br (n_1 == 0) (CallA Try.prog fn_pworth_Worths_turn [pointer w, slice a n m, int IntKind.i64 cur] h fun (v : Value) (h : Heap) => v = tuple #[] ∧ Ret h K (int IntKind.i64 n_1)) (Ret h K (int IntKind.i64 n_1))
theorem F_pworth_Worths_Rate (w : Option Addr) (cur : Int) (rate : Int) (h : Heap) (K : Value → Heap → Prop) (k : F_pworth_Worths_RateT w cur rate h K) : CallA Try.prog fn_pworth_Worths_Rate [pointer w, int IntKind.i64 cur, int IntKind.i64 rate] h K :=
 CallA.of_ev (cs := []) Try.func75 (by kernel_rfl) (fun _ _ => Try.call75 _ _) mixed (by kernel_rfl) (by kernel_rfl) k
def F_pworth_Worths_CutT (w : Option Addr) (cur : Int) (cut : Int) (h : Heap) (K : Value → Heap → Prop) : Prop :=
 withAddr w fun (b o : Nat) =>
 ∃ (a : Option Addr),
 ∃ (n : Nat),
 ∃ (m : Nat),
 Heap.cell h b o = some (slice a n m) ∧
 CallA Try.prog fn_table_WithCut [slice a n m, int IntKind.i64 cur, int IntKind.i64 cut] h fun (v : Value) (h : Heap) =>
 ∃ (a : Option Addr),
 ∃ (n : Nat),
 ∃ (m : Nat),
 ∃ (n_1 : Int),
 v = tuple #[slice a n m, int IntKind.i64 n_1] ∧
 Br (n_1 == 0) (CallA Try.prog fn_pworth_Worths_turn [pointer w, slice a n m, int IntKind.i64 cur] h fun (v : Value) (h : Heap) => v = tuple #[] ∧ Ret h K (int IntKind.i64 n_1)) (Ret h K (int IntKind.i64 n_1))
theorem F_pworth_Worths_Cut (w : Option Addr) (cur : Int) (cut : Int) (h : Heap) (K : Value → Heap → Prop) (k : F_pworth_Worths_CutT w cur cut h K) : CallA Try.prog fn_pworth_Worths_Cut [pointer w, int IntKind.i64 cur, int IntKind.i64 cut] h K :=
 CallA.of_ev (cs := []) Try.func43 (by kernel_rfl) (fun _ _ => Try.call43 _ _) mixed (by kernel_rfl) (by kernel_rfl) k
end Go.Proofs.Ytghdadniddoboaa

namespace Go.Proofs.Ytghdadniddoboaa
open Go Go.Sy Go.Value
set_option linter.unusedVariables false
set_option maxRecDepth 100000
def L_pworth_Worths_If_0 (member : Int) (w : Nat) (x : Nat) (t38 : Option Addr) (t38n : Nat) (t38c : Nat) (t39 : Int) (t40 : Int) (h : Heap) (K : Value → Heap → Prop) : Prop :=
 LoopAt Try.prog Try.f39 39 (loopK Try.f39 0) (sp 102 [(1, int IntKind.i64 member), (3, pointer (some { block := w, off := 0 })), (10, pointer (some { block := x, off := 0 })), (38, slice t38 t38n t38c), (39, int IntKind.i64 t39), (40, int IntKind.i64 t40)]) h K
def L_pworth_Worths_If_0T (member : Int) (w : Nat) (x : Nat) (t38 : Option Addr) (t38n : Nat) (t38c : Nat) (t39 : Int) (t40 : Int) (h : Heap) (K : Value → Heap → Prop) : Prop :=
 Br (decide (t40 < t39))
 (0 ≤ t40 ∧
 t40 < (↑t38n : Int) ∧
 withAddr t38 fun (b o : Nat) =>
 ∃ (n : Int),
 Heap.cell h b (o + Int.toNat t40 * 3) = some (int IntKind.i64 n) ∧
 ∃ (n_1 : Int),
 Heap.cell h b (o + Int.toNat t40 * 3 + 1) = some (int IntKind.i64 n_1) ∧
 ∃ (n_2 : Int),
 Heap.cell h b (o + Int.toNat t40 * 3 + 2) = some (int IntKind.i64 n_2) ∧
 newB h [int IntKind.i64 0, int IntKind.i64 0, int IntKind.i64 0] 86 fun (r : Nat) (h : Heap) =>
 Heap.canSt h r 0 3 ∧
 ∃ (n_3 : Int),
 Heap.cell (Heap.setN h r 0 [int IntKind.i64 n, int IntKind.i64 n_1, int IntKind.i64 n_2]) r 0 = some (int IntKind.i64 n_3) ∧
 Br (n_3 != member) (L_pworth_Worths_If_0 member w x t38 t38n t38c t39 (IntKind.wrap IntKind.i64 (t40 + 1)) (Heap.setN h r 0 [int IntKind.i64 n, int IntKind.i64 n_1, int IntKind.i64 n_2]) K)
 (∃ (a : Option Addr),
 ∃ (n_4 : Nat),
 ∃ (m : Nat),
 Heap.cell (Heap.setN h r 0 [int IntKind.i64 n, int IntKind.i64 n_1, int IntKind.i64 n_2]) x 7 = some (slice a n_4 m) ∧
 ∃ (n_5 : Int),
 Heap.cell (Heap.setN h r 0 [int IntKind.i64 n, int IntKind.i64 n_1, int IntKind.i64 n_2]) r 1 = some (int IntKind.i64 n_5) ∧
 0 ≤ n_5 ∧
 n_5 < (↑n_4 : Int) ∧
 withAddr a fun (b o : Nat) =>
 ∃ (n_6 : Int),
 Heap.cell (Heap.setN h r 0 [int IntKind.i64 n, int IntKind.i64 n_1, int IntKind.i64 n_2]) b (o + Int.toNat n_5) = some (int IntKind.i64 n_6) ∧
 ∃ (n_7 : Int),
 Heap.cell (Heap.setN h r 0 [int IntKind.i64 n, int IntKind.i64 n_1, int IntKind.i64 n_2]) r 2 = some (int IntKind.i64 n_7) ∧
 CallA Try.prog fn_money_Add [int IntKind.i64 n_6, int IntKind.i64 n_7] (Heap.setN h r 0 [int IntKind.i64 n, int IntKind.i64 n_1, int IntKind.i64 n_2])
 fun (v : Value) (h : Heap) =>
 ∃ (n : Int),
 ∃ (n_8 : Int),
 v = tuple #[int IntKind.i64 n, int IntKind.i64 n_8] ∧
 Br (n_8 != 0) (Ret h K (tuple #[int IntKind.i64 0, int IntKind.i64 0, int IntKind.i64 n_8]))
 (∃ (a : Option Addr),
 ∃ (n_9 : Nat),
 ∃ (m : Nat),
 Heap.cell h x 7 = some (slice a n_9 m) ∧
 ∃ (n_10 : Int),
 Heap.cell h r 1 = some (int IntKind.i64 n_10) ∧
 0 ≤ n_10 ∧
 n_10 < (↑n_9 : Int) ∧
 withAddr a fun (b o : Nat) =>
 Heap.canSt h b (o + Int.toNat n_10) 1 ∧
 L_pworth_Worths_If_0 member w x t38 t38n t38c t39 (IntKind.wrap IntKind.i64 (t40 + 1)) (Heap.setN h b (o + Int.toNat n_10) [int IntKind.i64 n]) K)))
 (∃ (a : Option Addr),
 ∃ (n : Nat),
 ∃ (m : Nat),
 Heap.cell h x 7 = some (slice a n m) ∧
 ∃ (a_1 : Option Addr),
 ∃ (n_1 : Nat),
 ∃ (m_1 : Nat),
 Heap.cell h x 0 = some (slice a_1 n_1 m_1) ∧
 CallA Try.prog fn_slices_Equal_int64_int64 [slice a n m, slice a_1 n_1 m_1] h fun (v : Value) (h : Heap) =>
 ∃ (b : Bool),
 v = Value.bool b ∧
 Br (!b)
 (∃ (a : Option Addr),
 Heap.cell h w 0 = some (pointer a) ∧
 ∃ (a_2 : Option Addr),
 ∃ (n : Nat),
 ∃ (m : Nat),
 Heap.cell h x 7 = some (slice a_2 n m) ∧
 CallA Try.prog fn_pworth_Worths_account [pointer a, slice a_2 n m] h fun (v : Value) (h : Heap) =>
 ∃ (a : Option Addr),
 ∃ (n : Nat),
 ∃ (m : Nat),
 ∃ (a_3 : Option Addr),
 ∃ (n_2 : Nat),
 ∃ (m_2 : Nat),
 ∃ (a_4 : Option Addr),
 ∃ (n_3 : Nat),
 ∃ (m_3 : Nat),
 ∃ (n_4 : Int),
 ∃ (n_5 : Int),
 ∃ (n_6 : Int),
 ∃ (n_7 : Int),
 v = agg #[slice a n m, slice a_3 n_2 m_2, slice a_4 n_3 m_3, int IntKind.i64 n_4, int IntKind.i64 n_5, int IntKind.i64 n_6, int IntKind.i64 n_7] ∧
 Heap.canSt h x 0 7 ∧
 ∃ (n_8 : Int),
 Heap.cell
 (Heap.setN h x 0
 [slice a n m, slice a_3 n_2 m_2, slice a_4 n_3 m_3, int IntKind.i64 n_4, int IntKind.i64 n_5, int IntKind.i64 n_6, int IntKind.i64 n_7])
 x 4 =
 some (int IntKind.i64 n_8) ∧
 Br (n_8 != 0)
 (Ret
 (Heap.setN h x 0
 [slice a n m, slice a_3 n_2 m_2, slice a_4 n_3 m_3, int IntKind.i64 n_4, int IntKind.i64 n_5, int IntKind.i64 n_6, int IntKind.i64 n_7])
 K (tuple #[int IntKind.i64 0, int IntKind.i64 0, int IntKind.i64 3]))
 (∃ (n_9 : Int),
 Heap.cell
 (Heap.setN h x 0
 [slice a n m, slice a_3 n_2 m_2, slice a_4 n_3 m_3, int IntKind.i64 n_4, int IntKind.i64 n_5, int IntKind.i64 n_6,
 int IntKind.i64 n_7])
 x 6 =
 some (int IntKind.i64 n_9) ∧
 Br (n_9 != 0)
 (Ret
 (Heap.setN h x 0
 [slice a n m, slice a_3 n_2 m_2, slice a_4 n_3 m_3, int IntKind.i64 n_4, int IntKind.i64 n_5, int IntKind.i64 n_6,
 int IntKind.i64 n_7])
 K (tuple #[int IntKind.i64 0, int IntKind.i64 0, int IntKind.i64 3]))
 (∃ (n_10 : Int),
 Heap.cell
 (Heap.setN h x 0
 [slice a n m, slice a_3 n_2 m_2, slice a_4 n_3 m_3, int IntKind.i64 n_4, int IntKind.i64 n_5, int IntKind.i64 n_6,
 int IntKind.i64 n_7])
 x 3 =
 some (int IntKind.i64 n_10) ∧
 ∃ (n_11 : Int),
 Heap.cell
 (Heap.setN h x 0
 [slice a n m, slice a_3 n_2 m_2, slice a_4 n_3 m_3, int IntKind.i64 n_4, int IntKind.i64 n_5, int IntKind.i64 n_6,
 int IntKind.i64 n_7])
 x 5 =
 some (int IntKind.i64 n_11) ∧
 Ret
 (Heap.setN h x 0
 [slice a n m, slice a_3 n_2 m_2, slice a_4 n_3 m_3, int IntKind.i64 n_4, int IntKind.i64 n_5, int IntKind.i64 n_6,
 int IntKind.i64 n_7])
 K (tuple #[int IntKind.i64 n_10, int IntKind.i64 n_11, int IntKind.i64 0]))))
 (∃ (n : Int),
 Heap.cell h x 4 = some (int IntKind.i64 n) ∧
 Br (n != 0) (Ret h K (tuple #[int IntKind.i64 0, int IntKind.i64 0, int IntKind.i64 3]))
 (∃ (n : Int),
 Heap.cell h x 6 = some (int IntKind.i64 n) ∧
 Br (n != 0) (Ret h K (tuple #[int IntKind.i64 0, int IntKind.i64 0, int IntKind.i64 3]))
 (∃ (n : Int),
 Heap.cell h x 3 = some (int IntKind.i64 n) ∧
 ∃ (n_2 : Int), Heap.cell h x 5 = some (int IntKind.i64 n_2) ∧ Ret h K (tuple #[int IntKind.i64 n, int IntKind.i64 n_2, int IntKind.i64 0])))))
theorem L_pworth_Worths_If_0r (member : Int) (w : Nat) (x : Nat) (t38 : Option Addr) (t38n : Nat) (t38c : Nat) (t39 : Int) (t40 : Int) (h : Heap) (K : Value → Heap → Prop) (k : L_pworth_Worths_If_0T member w x t38 t38n t38c t39 t40 h K) : L_pworth_Worths_If_0 member w x t38 t38n t38c t39 t40 h K :=
 LoopAt.of_ev (cs := []) Try.func39 mixed (fun junk => by kernel_rfl) k
def F_pworth_Worths_IfT (w : Option Addr) (member : Int) (batch : Option Addr) (batchn : Nat) (batchc : Nat) (h : Heap) (K : Value → Heap → Prop) : Prop :=
 newB h [pointer w] 47 fun (r : Nat) (h : Heap) =>
 ∃ (a : Option Addr),
 Heap.cell h r 0 = some (pointer a) ∧
 CallA Try.prog fn_pworth_Worths_has [pointer a, int IntKind.i64 member] h fun (v : Value) (h : Heap) =>
 ∃ (b : Bool),
 v = Value.bool b ∧
 Br (!b) (Ret h K (tuple #[int IntKind.i64 0, int IntKind.i64 0, int IntKind.i64 1]))
 (CallA Try.prog fn_slices_ContainsFunc_api_Posting_api_Posting [slice batch batchn batchc, func (Fn.func fn_pworth_Worths_If_1) #[] #[pointer (some { block := r, off := 0 })]] h fun (v : Value) (h : Heap) =>
 ∃ (b : Bool),
 v = Value.bool b ∧
 Br b (Ret h K (tuple #[int IntKind.i64 0, int IntKind.i64 0, int IntKind.i64 1]))
 (∃ (a : Option Addr),
 Heap.cell h r 0 = some (pointer a) ∧
 withAddr a fun (b o : Nat) =>
 ∃ (a : Option Addr),
 ∃ (n : Nat),
 ∃ (m : Nat),
 Heap.cell h b (o + 2) = some (slice a n m) ∧
 0 ≤ member ∧
 member < (↑n : Int) ∧
 withAddr a fun (b o : Nat) =>
 ∃ (a : Option Addr),
 ∃ (n : Nat),
 ∃ (m : Nat),
 Heap.cell h b (o + Int.toNat member * 7) = some (slice a n m) ∧
 ∃ (a_1 : Option Addr),
 ∃ (n_1 : Nat),
 ∃ (m_1 : Nat),
 Heap.cell h b (o + Int.toNat member * 7 + 1) = some (slice a_1 n_1 m_1) ∧
 ∃ (a_2 : Option Addr),
 ∃ (n_2 : Nat),
 ∃ (m_2 : Nat),
 Heap.cell h b (o + Int.toNat member * 7 + 2) = some (slice a_2 n_2 m_2) ∧
 ∃ (n_3 : Int),
 Heap.cell h b (o + Int.toNat member * 7 + 3) = some (int IntKind.i64 n_3) ∧
 ∃ (n_4 : Int),
 Heap.cell h b (o + Int.toNat member * 7 + 4) = some (int IntKind.i64 n_4) ∧
 ∃ (n_5 : Int),
 Heap.cell h b (o + Int.toNat member * 7 + 5) = some (int IntKind.i64 n_5) ∧
 ∃ (n_6 : Int),
 Heap.cell h b (o + Int.toNat member * 7 + 6) = some (int IntKind.i64 n_6) ∧
 newB h
 [slice none 0 0, slice none 0 0, slice none 0 0, int IntKind.i64 0, int IntKind.i64 0, int IntKind.i64 0, int IntKind.i64 0,
 slice none 0 0]
 143 fun (r_1 : Nat) (h : Heap) =>
 Heap.canSt h r_1 0 8 ∧
 ∃ (a_3 : Option Addr),
 ∃ (n_7 : Nat),
 ∃ (m_3 : Nat),
 Heap.cell
 (Heap.setN h r_1 0
 [slice a n m, slice a_1 n_1 m_1, slice a_2 n_2 m_2, int IntKind.i64 n_3, int IntKind.i64 n_4, int IntKind.i64 n_5,
 int IntKind.i64 n_6, slice none 0 0])
 r_1 0 =
 some (slice a_3 n_7 m_3) ∧
 CallA Try.prog fn_slices_Clone_int64_int64 [slice a_3 n_7 m_3]
 (Heap.setN h r_1 0
 [slice a n m, slice a_1 n_1 m_1, slice a_2 n_2 m_2, int IntKind.i64 n_3, int IntKind.i64 n_4, int IntKind.i64 n_5,
 int IntKind.i64 n_6, slice none 0 0])
 fun (v : Value) (h : Heap) =>
 ∃ (a : Option Addr),
 ∃ (n : Nat),
 ∃ (m : Nat),
 v = slice a n m ∧
 Heap.canSt h r_1 7 1 ∧
 L_pworth_Worths_If_0 member r r_1 batch batchn batchc (↑batchn : Int) 0 (Heap.setN h r_1 7 [slice a n m]) K))
theorem F_pworth_Worths_If (w : Option Addr) (member : Int) (batch : Option Addr) (batchn : Nat) (batchc : Nat) (h : Heap) (K : Value → Heap → Prop) (k : F_pworth_Worths_IfT w member batch batchn batchc h K) : CallA Try.prog fn_pworth_Worths_If [pointer w, int IntKind.i64 member, slice batch batchn batchc] h K :=
 CallA.of_ev (cs := []) Try.func39 (by kernel_rfl) (fun _ _ => Try.call39 _ _) mixed (by kernel_rfl) (by kernel_rfl) k
def F_pworth_Worths_If_1T (p_0 : Int) (p_1 : Int) (p_2 : Int) (c0 : Nat) (h : Heap) (K : Value → Heap → Prop) : Prop :=
 newB h [int IntKind.i64 p_0, int IntKind.i64 p_1, int IntKind.i64 p_2] 86 fun (r : Nat) (h : Heap) =>
 ∃ (n : Int),
 Heap.cell h r 1 = some (int IntKind.i64 n) ∧
 Br (decide (n < 0)) (Ret h K (Value.bool true))
 (∃ (n : Int),
 Heap.cell h r 1 = some (int IntKind.i64 n) ∧
 ∃ (a : Option Addr),
 Heap.cell h c0 0 = some (pointer a) ∧
 withAddr a fun (b o : Nat) => ∃ (a : Option Addr), ∃ (n_1 : Nat), ∃ (m : Nat), Heap.cell h b o = some (slice a n_1 m) ∧ Ret h K (Value.bool (decide (n ≥ (↑n_1 : Int)))))
theorem F_pworth_Worths_If_1 (p_0 : Int) (p_1 : Int) (p_2 : Int) (c0 : Nat) (h : Heap) (K : Value → Heap → Prop) (k : F_pworth_Worths_If_1T p_0 p_1 p_2 c0 h K) : CallA Try.prog fn_pworth_Worths_If_1 [agg #[int IntKind.i64 p_0, int IntKind.i64 p_1, int IntKind.i64 p_2], pointer (some { block := c0, off := 0 })] h K :=
 CallA.of_ev (cs := []) Try.func83 (by kernel_rfl) (fun _ _ => Try.call83 _ _) mixed (by kernel_rfl) (by kernel_rfl) k
def L_slices_Equal_int64_int64_0 (s1 : Option Addr) (s1n : Nat) (s1c : Nat) (s2 : Option Addr) (s2n : Nat) (s2c : Nat) (t12 : Int) (t13 : Int) (h : Heap) (K : Value → Heap → Prop) : Prop :=
 LoopAt Try.prog Try.f86 86 (loopK Try.f86 0) (sp 26 [(0, slice s1 s1n s1c), (1, slice s2 s2n s2c), (12, int IntKind.i64 t12), (13, int IntKind.i64 t13)]) h K
def L_slices_Equal_int64_int64_0T (s1 : Option Addr) (s1n : Nat) (s1c : Nat) (s2 : Option Addr) (s2n : Nat) (s2c : Nat) (t12 : Int) (t13 : Int) (h : Heap) (K : Value → Heap → Prop) : Prop :=
 Br (decide (t13 < t12))
 (0 ≤ t13 ∧
 t13 < (↑s1n : Int) ∧
 withAddr s1 fun (b o : Nat) =>
 ∃ (n : Int),
 Heap.cell h b (o + Int.toNat t13) = some (int IntKind.i64 n) ∧
 0 ≤ t13 ∧
 t13 < (↑s2n : Int) ∧
 withAddr s2 fun (b o : Nat) =>
 ∃ (n_1 : Int), Heap.cell h b (o + Int.toNat t13) = some (int IntKind.i64 n_1) ∧ Br (n != n_1) (Ret h K (Value.bool false)) (L_slices_Equal_int64_int64_0 s1 s1n s1c s2 s2n s2c t12 (IntKind.wrap IntKind.i64 (t13 + 1)) h K))
 (Ret h K (Value.bool true))
theorem L_slices_Equal_int64_int64_0r (s1 : Option Addr) (s1n : Nat) (s1c : Nat) (s2 : Option Addr) (s2n : Nat) (s2c : Nat) (t12 : Int) (t13 : Int) (h : Heap) (K : Value → Heap → Prop) (k : L_slices_Equal_int64_int64_0T s1 s1n s1c s2 s2n s2c t12 t13 h K) : L_slices_Equal_int64_int64_0 s1 s1n s1c s2 s2n s2c t12 t13 h K :=
 LoopAt.of_ev (cs := []) Try.func86 mixed (fun junk => by kernel_rfl) k
def F_slices_Equal_int64_int64T (s1 : Option Addr) (s1n : Nat) (s1c : Nat) (s2 : Option Addr) (s2n : Nat) (s2c : Nat) (h : Heap) (K : Value → Heap → Prop) : Prop :=
 Br ((↑s1n : Int) != (↑s2n : Int)) (Ret h K (Value.bool false)) (L_slices_Equal_int64_int64_0 s1 s1n s1c s2 s2n s2c (↑s1n : Int) 0 h K)
theorem F_slices_Equal_int64_int64 (s1 : Option Addr) (s1n : Nat) (s1c : Nat) (s2 : Option Addr) (s2n : Nat) (s2c : Nat) (h : Heap) (K : Value → Heap → Prop) (k : F_slices_Equal_int64_int64T s1 s1n s1c s2 s2n s2c h K) : CallA Try.prog fn_slices_Equal_int64_int64 [slice s1 s1n s1c, slice s2 s2n s2c] h K :=
 CallA.of_ev (cs := []) Try.func86 (by kernel_rfl) (fun _ _ => Try.call86 _ _) mixed (by kernel_rfl) (by kernel_rfl) k
def F_slices_ContainsFunc_api_Posting_api_PostingT (s : Option Addr) (sn : Nat) (sc : Nat) (fr0 : Nat) (h : Heap) (K : Value → Heap → Prop) : Prop :=
 CallA Try.prog fn_slices_IndexFunc_api_Posting_api_Posting [slice s sn sc, func (Fn.func fn_pworth_Worths_If_1) #[] #[pointer (some { block := fr0, off := 0 })]] h fun (v : Value) (h : Heap) => ∃ (n : Int), v = int IntKind.i64 n ∧ Ret h K (Value.bool (decide (n ≥ 0)))
theorem F_slices_ContainsFunc_api_Posting_api_Posting (s : Option Addr) (sn : Nat) (sc : Nat) (fr0 : Nat) (h : Heap) (K : Value → Heap → Prop) (k : F_slices_ContainsFunc_api_Posting_api_PostingT s sn sc fr0 h K) : CallA Try.prog fn_slices_ContainsFunc_api_Posting_api_Posting [slice s sn sc, func (Fn.func fn_pworth_Worths_If_1) #[] #[pointer (some { block := fr0, off := 0 })]] h K :=
 CallA.of_ev (cs := []) Try.func84 (by kernel_rfl) (fun _ _ => Try.call84 _ _) mixed (by kernel_rfl) (by kernel_rfl) k
def L_slices_IndexFunc_api_Posting_api_Posting_0 (s : Option Addr) (sn : Nat) (sc : Nat) (f_0 : Nat) (t7 : Int) (t8 : Int) (h : Heap) (K : Value → Heap → Prop) : Prop :=
 LoopAt Try.prog Try.f118 118 (loopK Try.f118 0) (sp 19 [(0, slice s sn sc), (1, func (Fn.func fn_pworth_Worths_If_1) #[] #[pointer (some { block := f_0, off := 0 })]), (7, int IntKind.i64 t7), (8, int IntKind.i64 t8)]) h K
def L_slices_IndexFunc_api_Posting_api_Posting_0T (s : Option Addr) (sn : Nat) (sc : Nat) (f_0 : Nat) (t7 : Int) (t8 : Int) (h : Heap) (K : Value → Heap → Prop) : Prop :=
 Br (decide (t8 < t7))
 (0 ≤ t8 ∧
 t8 < (↑sn : Int) ∧
 withAddr s fun (b o : Nat) =>
 ∃ (n : Int),
 Heap.cell h b (o + Int.toNat t8 * 3) = some (int IntKind.i64 n) ∧
 ∃ (n_1 : Int),
 Heap.cell h b (o + Int.toNat t8 * 3 + 1) = some (int IntKind.i64 n_1) ∧
 ∃ (n_2 : Int),
 Heap.cell h b (o + Int.toNat t8 * 3 + 2) = some (int IntKind.i64 n_2) ∧
 CallA Try.prog fn_pworth_Worths_If_1 [agg #[int IntKind.i64 n, int IntKind.i64 n_1, int IntKind.i64 n_2], pointer (some { block := f_0, off := 0 })] h fun (v : Value) (h : Heap) =>
 ∃ (b : Bool), v = Value.bool b ∧ Br b (Ret h K (int IntKind.i64 t8)) (L_slices_IndexFunc_api_Posting_api_Posting_0 s sn sc f_0 t7 (IntKind.wrap IntKind.i64 (t8 + 1)) h K))
 (Ret h K (int IntKind.i64 (-1)))
theorem L_slices_IndexFunc_api_Posting_api_Posting_0r (s : Option Addr) (sn : Nat) (sc : Nat) (f_0 : Nat) (t7 : Int) (t8 : Int) (h : Heap) (K : Value → Heap → Prop) (k : L_slices_IndexFunc_api_Posting_api_Posting_0T s sn sc f_0 t7 t8 h K) : L_slices_IndexFunc_api_Posting_api_Posting_0 s sn sc f_0 t7 t8 h K :=
 LoopAt.of_ev (cs := []) Try.func118 mixed (fun junk => by kernel_rfl) k
def F_slices_IndexFunc_api_Posting_api_PostingT (s : Option Addr) (sn : Nat) (sc : Nat) (fr0 : Nat) (h : Heap) (K : Value → Heap → Prop) : Prop :=
 L_slices_IndexFunc_api_Posting_api_Posting_0 s sn sc fr0 (↑sn : Int) 0 h K
theorem F_slices_IndexFunc_api_Posting_api_Posting (s : Option Addr) (sn : Nat) (sc : Nat) (fr0 : Nat) (h : Heap) (K : Value → Heap → Prop) (k : F_slices_IndexFunc_api_Posting_api_PostingT s sn sc fr0 h K) : CallA Try.prog fn_slices_IndexFunc_api_Posting_api_Posting [slice s sn sc, func (Fn.func fn_pworth_Worths_If_1) #[] #[pointer (some { block := fr0, off := 0 })]] h K :=
 CallA.of_ev (cs := []) Try.func118 (by kernel_rfl) (fun _ _ => Try.call118 _ _) mixed (by kernel_rfl) (by kernel_rfl) k
end Go.Proofs.Ytghdadniddoboaa

namespace Go.Proofs.Ytghdadniddoboaa
open Go Go.Sy Go.Value
set_option linter.unusedVariables false
set_option maxRecDepth 100000
def L_ref02_Same_0 (a : Option Addr) (an : Nat) (ac : Nat) (b : Option Addr) (bn : Nat) (bc : Nat) (i : Int) (h : Heap) (K : Value → Heap → Prop) : Prop :=
 LoopAt Try.prog Try.f20 20 (loopK Try.f20 0) (sp 26 [(0, slice a an ac), (1, slice b bn bc), (5, int IntKind.i64 i)]) h K
def L_ref02_Same_0T (a : Option Addr) (an : Nat) (ac : Nat) (b : Option Addr) (bn : Nat) (bc : Nat) (i : Int) (h : Heap) (K : Value → Heap → Prop) : Prop :=
 Br (decide (i < (↑an : Int)))
 (0 ≤ i ∧
 i < (↑an : Int) ∧
 withAddr a fun (b_1 o : Nat) =>
 ∃ (n : Int),
 Heap.cell h b_1 (o + Int.toNat i) = some (int IntKind.i64 n) ∧
 0 ≤ i ∧
 i < (↑bn : Int) ∧
 withAddr b fun (b_2 o : Nat) =>
 ∃ (n_1 : Int), Heap.cell h b_2 (o + Int.toNat i) = some (int IntKind.i64 n_1) ∧ Br (n != n_1) (Ret h K (Value.bool false)) (L_ref02_Same_0 a an ac b bn bc (IntKind.wrap IntKind.i64 (i + 1)) h K))
 (Ret h K (Value.bool true))
theorem L_ref02_Same_0r (a : Option Addr) (an : Nat) (ac : Nat) (b : Option Addr) (bn : Nat) (bc : Nat) (i : Int) (h : Heap) (K : Value → Heap → Prop) (k : L_ref02_Same_0T a an ac b bn bc i h K) : L_ref02_Same_0 a an ac b bn bc i h K :=
 LoopAt.of_ev (cs := []) Try.func20 mixed (fun junk => by kernel_rfl) k
def F_ref02_SameT (a : Option Addr) (an : Nat) (ac : Nat) (b : Option Addr) (bn : Nat) (bc : Nat) (h : Heap) (K : Value → Heap → Prop) : Prop :=
 Br ((↑an : Int) != (↑bn : Int)) (Ret h K (Value.bool false)) (L_ref02_Same_0 a an ac b bn bc 0 h K)
theorem F_ref02_Same (a : Option Addr) (an : Nat) (ac : Nat) (b : Option Addr) (bn : Nat) (bc : Nat) (h : Heap) (K : Value → Heap → Prop) (k : F_ref02_SameT a an ac b bn bc h K) : CallA Try.prog fn_ref02_Same [slice a an ac, slice b bn bc] h K :=
 CallA.of_ev (cs := []) Try.func20 (by kernel_rfl) (fun _ _ => Try.call20 _ _) mixed (by kernel_rfl) (by kernel_rfl) k
def F_slices_Clone_int64_int64T (s : Option Addr) (sn : Nat) (sc : Nat) (h : Heap) (K : Value → Heap → Prop) : Prop :=
 Br (Option.isNone s) (Ret h K (slice none 0 0))
 (newB h [] 2 fun (r : Nat) (h : Heap) => AppA [int IntKind.i64 0] 2 h (some { block := r, off := 0 }) 0 0 sn s fun (ap : Option Addr) (cp : Nat) (h : Heap) => Ret h K (slice ap (0 + sn) cp))
theorem F_slices_Clone_int64_int64 (s : Option Addr) (sn : Nat) (sc : Nat) (h : Heap) (K : Value → Heap → Prop) (k : F_slices_Clone_int64_int64T s sn sc h K) : CallA Try.prog fn_slices_Clone_int64_int64 [slice s sn sc] h K :=
 CallA.of_ev (cs := []) Try.func85 (by kernel_rfl) (fun _ _ => Try.call85 _ _) mixed (by kernel_rfl) (by kernel_rfl) k
end Go.Proofs.Ytghdadniddoboaa

namespace Go.Proofs.Ytghdadniddoboaa
open Go Go.Sy Go.Value
set_option linter.unusedVariables false
set_option maxRecDepth 100000
def F_pstrings_Builder_WriteByteT (b : Option Addr) (c : Int) (h : Heap) (K : Value → Heap → Prop) : Prop :=
 CallA Try.prog fn_pstrings_Builder_copyCheck [pointer b] h fun (v : Value) (h : Heap) =>
 v = tuple #[] ∧
 withAddr b fun (b_1 o : Nat) =>
 ∃ (a : Option Addr),
 ∃ (n : Nat),
 ∃ (m : Nat),
 Heap.cell h b_1 (o + 1) = some (slice a n m) ∧
 newB h [int IntKind.u8 c] 5 fun (r : Nat) (h : Heap) =>
 AppA [int IntKind.u8 0] 5 h a n m 1 (some { block := r, off := 0 }) fun (ap : Option Addr) (cp : Nat) (h : Heap) =>
 withAddr b fun (b o : Nat) => Heap.canSt h b (o + 1) 1 ∧ Ret (Heap.setN h b (o + 1) [slice ap (n + 1) cp]) K nilIface
theorem F_pstrings_Builder_WriteByte (b : Option Addr) (c : Int) (h : Heap) (K : Value → Heap → Prop) (k : F_pstrings_Builder_WriteByteT b c h K) : CallA Try.prog fn_pstrings_Builder_WriteByte [pointer b, int IntKind.u8 c] h K :=
 CallA.of_ev (cs := []) Try.func159 (by kernel_rfl) (fun _ _ => Try.call159 _ _) mixed (by kernel_rfl) (by kernel_rfl) k
def F_pstrings_Builder_StringT (b : Option Addr) (h : Heap) (K : Value → Heap → Prop) : Prop :=
 withAddr b fun (b_1 o : Nat) =>
 ∃ (a : Option Addr),
 ∃ (n : Nat),
 ∃ (m : Nat),
 Heap.cell h b_1 (o + 1) = some (slice a n m) ∧
 (a = none ∨ m ≠ 0) ∧
 withAddr b fun (b o : Nat) =>
 ∃ (a_1 : Option Addr), ∃ (n : Nat), ∃ (m : Nat), Heap.cell h b (o + 1) = some (slice a_1 n m) ∧ UStrA Try.prog 5 h a (↑n : Int) fun (s : ByteArray) (h : Heap) => Ret h K (string s)
theorem F_pstrings_Builder_String (b : Option Addr) (h : Heap) (K : Value → Heap → Prop) (k : F_pstrings_Builder_StringT b h K) : CallA Try.prog fn_pstrings_Builder_String [pointer b] h K :=
 CallA.of_ev (cs := []) Try.func161 (by kernel_rfl) (fun _ _ => Try.call161 _ _) mixed (by kernel_rfl) (by kernel_rfl) k
def F_pstrings_Builder_copyCheckT (b : Option Addr) (h : Heap) (K : Value → Heap → Prop) : Prop :=
 withAddr b fun (b_1 o : Nat) =>
 ∃ (a : Option Addr),
 Heap.cell h b_1 o = some (pointer a) ∧
 Br (Option.isNone a)
 (withAddr b fun (b_2 o : Nat) =>
 ToU h b_2 o ∧ LieU Try.prog h b_2 o 205 1 ∧ withAddr b fun (b o_1 : Nat) => Heap.canSt h b o_1 1 ∧ Ret (Heap.setN h b o_1 [pointer (some { block := b_2, off := o })]) K (tuple #[]))
 (withAddr b fun (b_2 o : Nat) => ∃ (a : Option Addr), Heap.cell h b_2 o = some (pointer a) ∧ withAddr a fun (b_3 o : Nat) => withAddr b fun (b o_1 : Nat) => b_3 = b ∧ o = o_1 ∧ Ret h K (tuple #[]))
theorem F_pstrings_Builder_copyCheck (b : Option Addr) (h : Heap) (K : Value → Heap → Prop) (k : F_pstrings_Builder_copyCheckT b h K) : CallA Try.prog fn_pstrings_Builder_copyCheck [pointer b] h K :=
 CallA.of_ev (cs := []) Try.func169 (by kernel_rfl) (fun _ _ => Try.call169 _ _) mixed (by kernel_rfl) (by kernel_rfl) k
end Go.Proofs.Ytghdadniddoboaa

namespace Go.Proofs.Ytghdadniddoboaa
open Go Go.Sy Go.Value
set_option linter.unusedVariables false
set_option maxRecDepth 100000
def F_law09_awakeT (h : Heap) (K : Value → Heap → Prop) : Prop :=
 newB h [string { data := #[69, 85, 82] }, int IntKind.i64 10000, int IntKind.i64 0, string { data := #[85, 83, 68] }, int IntKind.i64 12500, int IntKind.i64 200] 61 fun (r : Nat) (h : Heap) =>
 CallA Try.prog fn_ledger_New [int IntKind.i64 2, int IntKind.i64 2] h fun (v : Value) (h : Heap) =>
 ∃ (a : Option Addr),
 ∃ (n : Int),
 v = tuple #[pointer a, int IntKind.i64 n] ∧
 Br (Option.isNone a) (Ret h K (Value.bool false))
 (CallA Try.prog fn_pledger_Ledger_In [pointer a, int IntKind.i64 0, int IntKind.i64 0, int IntKind.i64 10] h fun (v : Value) (h : Heap) =>
 ∃ (n : Int),
 v = int IntKind.i64 n ∧
 CallA Try.prog fn_pledger_Ledger_In [pointer a, int IntKind.i64 1, int IntKind.i64 1, int IntKind.i64 100] h fun (v : Value) (h : Heap) =>
 ∃ (n : Int),
 v = int IntKind.i64 n ∧
 newB h [int IntKind.i64 0, int IntKind.i64 1, int IntKind.i64 (-100), int IntKind.i64 1, int IntKind.i64 1, int IntKind.i64 100] 86 fun (r_1 : Nat) (h : Heap) =>
 CallA Try.prog fn_pledger_Ledger_Post [pointer a, slice (some { block := r_1, off := 0 }) 2 2] h fun (v : Value) (h : Heap) =>
 ∃ (n : Int),
 v = int IntKind.i64 n ∧
 CallA Try.prog fn_worth_New [slice (some { block := r, off := 0 }) 2 2, pointer a] h fun (v : Value) (h : Heap) =>
 ∃ (a_1 : Option Addr),
 ∃ (n : Int),
 v = tuple #[pointer a_1, int IntKind.i64 n] ∧
 (0 : Int) ≤ 1 ∧
 (1 : Int) ≤ 2 ∧
 CallA Try.prog fn_worth_New [slice (some { block := r, off := 0 }) 1 2, pointer a] h fun (v : Value) (h : Heap) =>
 ∃ (a : Option Addr),
 ∃ (n_1 : Int),
 v = tuple #[pointer a, int IntKind.i64 n_1] ∧
 Br (Option.isNone a_1) (Ret h K (Value.bool false))
 (CallA Try.prog fn_pworth_Worths_Net [pointer a_1, int IntKind.i64 0] h fun (v : Value) (h : Heap) =>
 ∃ (n_2 : Int),
 ∃ (n_3 : Int),
 v = tuple #[int IntKind.i64 n_2, int IntKind.i64 n_3] ∧
 CallA Try.prog fn_pworth_Worths_Short [pointer a_1, int IntKind.i64 0] h fun (v : Value) (h : Heap) =>
 ∃ (n_4 : Int),
 ∃ (n_5 : Int),
 v = tuple #[int IntKind.i64 n_4, int IntKind.i64 n_5] ∧
 newB h [int IntKind.i64 0, int IntKind.i64 1, int IntKind.i64 100] 86 fun (r : Nat) (h : Heap) =>
 CallA Try.prog fn_pworth_Worths_If [pointer a_1, int IntKind.i64 0, slice (some { block := r, off := 0 }) 1 1] h fun (v : Value) (h : Heap) =>
 ∃ (n_6 : Int),
 ∃ (n_7 : Int),
 ∃ (n_8 : Int),
 v = tuple #[int IntKind.i64 n_6, int IntKind.i64 n_7, int IntKind.i64 n_8] ∧
 CallA Try.prog fn_pworth_Worths_Rate [pointer a_1, int IntKind.i64 1, int IntKind.i64 10000] h fun (v : Value) (h : Heap) =>
 ∃ (n_9 : Int),
 v = int IntKind.i64 n_9 ∧
 CallA Try.prog fn_pworth_Worths_Cut [pointer a_1, int IntKind.i64 1, int IntKind.i64 10001] h fun (v : Value) (h : Heap) =>
 ∃ (n_10 : Int),
 v = int IntKind.i64 n_10 ∧
 CallA Try.prog fn_pworth_Worths_Net [pointer a_1, int IntKind.i64 0] h fun (v : Value) (h : Heap) =>
 ∃ (n_11 : Int),
 ∃ (n_12 : Int),
 v = tuple #[int IntKind.i64 n_11, int IntKind.i64 n_12] ∧
 CallA Try.prog fn_pworth_Worths_Table [pointer a_1] h fun (v : Value) (h : Heap) =>
 ∃ (a : Option Addr),
 ∃ (n_13 : Nat),
 ∃ (m : Nat),
 v = slice a n_13 m ∧
 CallA Try.prog fn_pworth_Worths_Net [pointer a_1, int IntKind.i64 2] h fun (v : Value) (h : Heap) =>
 ∃ (n_14 : Int),
 ∃ (n_15 : Int),
 v = tuple #[int IntKind.i64 n_14, int IntKind.i64 n_15] ∧
 Br (n == 0)
 (Br (n_1 == 1)
 (Br (n_2 == -118)
 (Br (n_3 == 0)
 (Br (n_4 == 125)
 (Br (n_5 == 0)
 (Br (n_6 == 10)
 (Br (n_7 == 0)
 (Br (n_8 == 0)
 (Br (n_9 == 0)
 (Br (n_10 == 1)
 (Br (n_11 == -92)
 (Br ((↑n_13 : Int) == 2)
 ((0 : Int) ≤ 1 ∧
 1 < (↑n_13 : Int) ∧
 withAddr a fun (b o : Nat) =>
 ∃ (n : Int),
 Heap.cell h b (o + 3 + 1) = some (int IntKind.i64 n) ∧
 Br (n == 10000) (Ret h K (Value.bool (n_15 == 1)))
 (Ret h K (Value.bool false)))
 (Ret h K (Value.bool false)))
 (Ret h K (Value.bool false)))
 (Ret h K (Value.bool false)))
 (Ret h K (Value.bool false)))
 (Ret h K (Value.bool false)))
 (Ret h K (Value.bool false)))
 (Ret h K (Value.bool false)))
 (Ret h K (Value.bool false)))
 (Ret h K (Value.bool false)))
 (Ret h K (Value.bool false)))
 (Ret h K (Value.bool false)))
 (Ret h K (Value.bool false)))
 (Ret h K (Value.bool false))))
theorem F_law09_awake (h : Heap) (K : Value → Heap → Prop) (k : F_law09_awakeT h K) : CallA Try.prog fn_law09_awake [] h K :=
 CallA.of_ev (cs := []) Try.func24 (by kernel_rfl) (fun _ _ => Try.call24 _ _) mixed (by kernel_rfl) (by kernel_rfl) k
def L_law09_large_0 (l : Option Addr) (ln : Nat) (lc : Nat) (t5 : Int) (t6 : Int) (h : Heap) (K : Value → Heap → Prop) : Prop :=
 LoopAt Try.prog Try.f25 25 (loopK Try.f25 0) (sp 20 [(0, slice l ln lc), (5, int IntKind.i64 t5), (6, int IntKind.i64 t6)]) h K
def L_law09_large_0T (l : Option Addr) (ln : Nat) (lc : Nat) (t5 : Int) (t6 : Int) (h : Heap) (K : Value → Heap → Prop) : Prop :=
 Br (decide (t6 < t5))
 (0 ≤ t6 ∧
 t6 < (↑ln : Int) ∧
 withAddr l fun (b o : Nat) =>
 ∃ (a : Option Addr),
 ∃ (n : Nat), ∃ (m : Nat), Heap.cell h b (o + Int.toNat t6 * 5 + 4) = some (slice a n m) ∧ Br (decide ((↑n : Int) > 20)) (Ret h K (Value.bool true)) (L_law09_large_0 l ln lc t5 (IntKind.wrap IntKind.i64 (t6 + 1)) h K))
 (Ret h K (Value.bool (decide ((↑ln : Int) > 30))))
theorem L_law09_large_0r (l : Option Addr) (ln : Nat) (lc : Nat) (t5 : Int) (t6 : Int) (h : Heap) (K : Value → Heap → Prop) (k : L_law09_large_0T l ln lc t5 t6 h K) : L_law09_large_0 l ln lc t5 t6 h K :=
 LoopAt.of_ev (cs := []) Try.func25 mixed (fun junk => by kernel_rfl) k
def F_law09_largeT (l : Option Addr) (ln : Nat) (lc : Nat) (h : Heap) (K : Value → Heap → Prop) : Prop :=
 L_law09_large_0 l ln lc (↑ln : Int) 0 h K
theorem F_law09_large (l : Option Addr) (ln : Nat) (lc : Nat) (h : Heap) (K : Value → Heap → Prop) (k : F_law09_largeT l ln lc h K) : CallA Try.prog fn_law09_large [slice l ln lc] h K :=
 CallA.of_ev (cs := []) Try.func25 (by kernel_rfl) (fun _ _ => Try.call25 _ _) mixed (by kernel_rfl) (by kernel_rfl) k
def L_law09_do_0 (w : Option Addr) (members : Int) (e : Int) (m : Int) (h : Heap) (K : Value → Heap → Prop) : Prop :=
 LoopAt Try.prog Try.f31 31 (loopK Try.f31 0) (sp 68 [(1, pointer w), (2, int IntKind.i64 members), (10, int IntKind.i64 e), (11, int IntKind.i64 m)]) h K
def L_law09_do_0T (w : Option Addr) (members : Int) (e : Int) (m : Int) (h : Heap) (K : Value → Heap → Prop) : Prop :=
 Br (decide (m < members)) (CallA Try.prog fn_pworth_Worths_Moved [pointer w, int IntKind.i64 m] h fun (v : Value) (h : Heap) => v = tuple #[] ∧ L_law09_do_0 w members e (IntKind.wrap IntKind.i64 (m + 1)) h K) (Ret h K (int IntKind.i64 e))
theorem L_law09_do_0r (w : Option Addr) (members : Int) (e : Int) (m : Int) (h : Heap) (K : Value → Heap → Prop) (k : L_law09_do_0T w members e m h K) : L_law09_do_0 w members e m h K :=
 LoopAt.of_ev (cs := []) Try.func31 mixed (fun junk => by kernel_rfl) k
def F_law09_doT (l : Option Addr) (w : Option Addr) (members : Int) (x_0 : Int) (x_1 : Int) (x_2 : Int) (x_3 : Int) (x_4 : Option Addr) (x_4n : Nat) (x_4c : Nat) (h : Heap) (K : Value → Heap → Prop) : Prop :=
 newB h [int IntKind.i64 x_0, int IntKind.i64 x_1, int IntKind.i64 x_2, int IntKind.i64 x_3, slice x_4 x_4n x_4c] 53 fun (r : Nat) (h : Heap) =>
 ∃ (n : Int),
 Heap.cell h r 0 = some (int IntKind.i64 n) ∧
 Br (n == 0)
 (Br (n == 0)
 (∃ (n : Int),
 Heap.cell h r 1 = some (int IntKind.i64 n) ∧
 ∃ (n_1 : Int),
 Heap.cell h r 2 = some (int IntKind.i64 n_1) ∧
 ∃ (n_2 : Int),
 Heap.cell h r 3 = some (int IntKind.i64 n_2) ∧
 CallA Try.prog fn_pledger_Ledger_In [pointer l, int IntKind.i64 n, int IntKind.i64 n_1, int IntKind.i64 n_2] h fun (v : Value) (h : Heap) =>
 ∃ (n : Int),
 v = int IntKind.i64 n ∧
 ∃ (n_3 : Int),
 Heap.cell h r 0 = some (int IntKind.i64 n_3) ∧
 Br (n_3 == 0)
 (∃ (n_4 : Int),
 Heap.cell h r 1 = some (int IntKind.i64 n_4) ∧ CallA Try.prog fn_pworth_Worths_Moved [pointer w, int IntKind.i64 n_4] h fun (v : Value) (h : Heap) => v = tuple #[] ∧ Ret h K (int IntKind.i64 n))
 (Ret h K (int IntKind.i64 n)))
 (Br (n == 1)
 (∃ (a : Option Addr),
 ∃ (n : Nat),
 ∃ (m : Nat), Heap.cell h r 4 = some (slice a n m) ∧ CallA Try.prog fn_pledger_Ledger_Post [pointer l, slice a n m] h fun (v : Value) (h : Heap) => ∃ (n : Int), v = int IntKind.i64 n ∧ L_law09_do_0 w members n 0 h K)
 (Br (n == 2)
 (∃ (n : Int),
 Heap.cell h r 2 = some (int IntKind.i64 n) ∧
 ∃ (n_1 : Int),
 Heap.cell h r 3 = some (int IntKind.i64 n_1) ∧
 CallA Try.prog fn_pworth_Worths_Rate [pointer w, int IntKind.i64 n, int IntKind.i64 n_1] h fun (v : Value) (h : Heap) => ∃ (n : Int), v = int IntKind.i64 n ∧ Ret h K (int IntKind.i64 n))
 (Br (n == 3)
 (∃ (n : Int),
 Heap.cell h r 2 = some (int IntKind.i64 n) ∧
 ∃ (n_1 : Int),
 Heap.cell h r 3 = some (int IntKind.i64 n_1) ∧
 CallA Try.prog fn_pworth_Worths_Cut [pointer w, int IntKind.i64 n, int IntKind.i64 n_1] h fun (v : Value) (h : Heap) => ∃ (n : Int), v = int IntKind.i64 n ∧ Ret h K (int IntKind.i64 n))
 (∃ (n : Int), Heap.cell h r 1 = some (int IntKind.i64 n) ∧ CallA Try.prog fn_pworth_Worths_Moved [pointer w, int IntKind.i64 n] h fun (v : Value) (h : Heap) => v = tuple #[] ∧ Ret h K (int IntKind.i64 0))))))
 (Br (n == 4)
 (∃ (n : Int),
 Heap.cell h r 1 = some (int IntKind.i64 n) ∧
 ∃ (n_1 : Int),
 Heap.cell h r 2 = some (int IntKind.i64 n_1) ∧
 ∃ (n_2 : Int),
 Heap.cell h r 3 = some (int IntKind.i64 n_2) ∧
 CallA Try.prog fn_pledger_Ledger_In [pointer l, int IntKind.i64 n, int IntKind.i64 n_1, int IntKind.i64 n_2] h fun (v : Value) (h : Heap) =>
 ∃ (n : Int),
 v = int IntKind.i64 n ∧
 ∃ (n_3 : Int),
 Heap.cell h r 0 = some (int IntKind.i64 n_3) ∧
 Br (n_3 == 0)
 (∃ (n_4 : Int),
 Heap.cell h r 1 = some (int IntKind.i64 n_4) ∧ CallA Try.prog fn_pworth_Worths_Moved [pointer w, int IntKind.i64 n_4] h fun (v : Value) (h : Heap) => v = tuple #[] ∧ Ret h K (int IntKind.i64 n))
 (Ret h K (int IntKind.i64 n)))
 (Br (n == 1)
 (∃ (a : Option Addr),
 ∃ (n : Nat),
 ∃ (m : Nat), Heap.cell h r 4 = some (slice a n m) ∧ CallA Try.prog fn_pledger_Ledger_Post [pointer l, slice a n m] h fun (v : Value) (h : Heap) => ∃ (n : Int), v = int IntKind.i64 n ∧ L_law09_do_0 w members n 0 h K)
 (Br (n == 2)
 (∃ (n : Int),
 Heap.cell h r 2 = some (int IntKind.i64 n) ∧
 ∃ (n_1 : Int),
 Heap.cell h r 3 = some (int IntKind.i64 n_1) ∧
 CallA Try.prog fn_pworth_Worths_Rate [pointer w, int IntKind.i64 n, int IntKind.i64 n_1] h fun (v : Value) (h : Heap) => ∃ (n : Int), v = int IntKind.i64 n ∧ Ret h K (int IntKind.i64 n))
 (Br (n == 3)
 (∃ (n : Int),
 Heap.cell h r 2 = some (int IntKind.i64 n) ∧
 ∃ (n_1 : Int),
 Heap.cell h r 3 = some (int IntKind.i64 n_1) ∧
 CallA Try.prog fn_pworth_Worths_Cut [pointer w, int IntKind.i64 n, int IntKind.i64 n_1] h fun (v : Value) (h : Heap) => ∃ (n : Int), v = int IntKind.i64 n ∧ Ret h K (int IntKind.i64 n))
 (∃ (n : Int), Heap.cell h r 1 = some (int IntKind.i64 n) ∧ CallA Try.prog fn_pworth_Worths_Moved [pointer w, int IntKind.i64 n] h fun (v : Value) (h : Heap) => v = tuple #[] ∧ Ret h K (int IntKind.i64 0))))))
theorem F_law09_do (l : Option Addr) (w : Option Addr) (members : Int) (x_0 : Int) (x_1 : Int) (x_2 : Int) (x_3 : Int) (x_4 : Option Addr) (x_4n : Nat) (x_4c : Nat) (h : Heap) (K : Value → Heap → Prop) (k : F_law09_doT l w members x_0 x_1 x_2 x_3 x_4 x_4n x_4c h K) : CallA Try.prog fn_law09_do [pointer l, pointer w, int IntKind.i64 members, agg #[int IntKind.i64 x_0, int IntKind.i64 x_1, int IntKind.i64 x_2, int IntKind.i64 x_3, slice x_4 x_4n x_4c]] h K :=
 CallA.of_ev (cs := []) Try.func31 (by kernel_rfl) (fun _ _ => Try.call31 _ _) mixed (by kernel_rfl) (by kernel_rfl) k
end Go.Proofs.Ytghdadniddoboaa

namespace Go.Proofs.Ytghdadniddoboaa
open Go Go.Sy Go.Value
set_option linter.unusedVariables false
set_option maxRecDepth 100000
def L_law09_WorthKept_0 (many : Int) (l : Option Addr) (w : Option Addr) (t69 : Option Addr) (t69n : Nat) (t69c : Nat) (t70 : Int) (t71 : Int) (h : Heap) (K : Value → Heap → Prop) : Prop :=
 LoopAt Try.prog Try.f8 8 (loopK Try.f8 0) (sp 172 [(7, int IntKind.i64 many), (8, pointer l), (10, pointer w), (69, slice t69 t69n t69c), (70, int IntKind.i64 t70), (71, int IntKind.i64 t71)]) h K
def L_law09_WorthKept_1 (many : Int) (w : Option Addr) (v : Option Addr) (m : Int) (h : Heap) (K : Value → Heap → Prop) : Prop :=
 LoopAt Try.prog Try.f8 8 (loopK Try.f8 1) (sp 172 [(7, int IntKind.i64 many), (10, pointer w), (14, pointer v), (16, int IntKind.i64 m)]) h K
def L_law09_WorthKept_0T (many : Int) (l : Option Addr) (w : Option Addr) (t69 : Option Addr) (t69n : Nat) (t69c : Nat) (t70 : Int) (t71 : Int) (h : Heap) (K : Value → Heap → Prop) : Prop :=
 Br (decide (t71 < t70))
 (0 ≤ t71 ∧
 t71 < (↑t69n : Int) ∧
 withAddr t69 fun (b o : Nat) =>
 ∃ (n : Int),
 Heap.cell h b (o + Int.toNat t71 * 5) = some (int IntKind.i64 n) ∧
 ∃ (n_1 : Int),
 Heap.cell h b (o + Int.toNat t71 * 5 + 1) = some (int IntKind.i64 n_1) ∧
 ∃ (n_2 : Int),
 Heap.cell h b (o + Int.toNat t71 * 5 + 2) = some (int IntKind.i64 n_2) ∧
 ∃ (n_3 : Int),
 Heap.cell h b (o + Int.toNat t71 * 5 + 3) = some (int IntKind.i64 n_3) ∧
 ∃ (a : Option Addr),
 ∃ (n_4 : Nat),
 ∃ (m : Nat),
 Heap.cell h b (o + Int.toNat t71 * 5 + 4) = some (slice a n_4 m) ∧
 newB h [int IntKind.i64 0, int IntKind.i64 0, int IntKind.i64 0, int IntKind.i64 0, slice none 0 0] 53 fun (r : Nat) (h : Heap) =>
 Heap.canSt h r 0 5 ∧
 ∃ (n_5 : Int),
 Heap.cell (Heap.setN h r 0 [int IntKind.i64 n, int IntKind.i64 n_1, int IntKind.i64 n_2, int IntKind.i64 n_3, slice a n_4 m]) r 0 = some (int IntKind.i64 n_5) ∧
 Br (n_5 == 4)
 (Heap.canSt (Heap.setN h r 0 [int IntKind.i64 n, int IntKind.i64 n_1, int IntKind.i64 n_2, int IntKind.i64 n_3, slice a n_4 m]) r 0 1 ∧
 ∃ (n_6 : Int),
 Heap.cell (Heap.setN (Heap.setN h r 0 [int IntKind.i64 n, int IntKind.i64 n_1, int IntKind.i64 n_2, int IntKind.i64 n_3, slice a n_4 m]) r 0 [int IntKind.i64 0]) r 0 =
 some (int IntKind.i64 n_6) ∧
 ∃ (n_7 : Int),
 Heap.cell (Heap.setN (Heap.setN h r 0 [int IntKind.i64 n, int IntKind.i64 n_1, int IntKind.i64 n_2, int IntKind.i64 n_3, slice a n_4 m]) r 0 [int IntKind.i64 0]) r 1 =
 some (int IntKind.i64 n_7) ∧
 ∃ (n_8 : Int),
 Heap.cell (Heap.setN (Heap.setN h r 0 [int IntKind.i64 n, int IntKind.i64 n_1, int IntKind.i64 n_2, int IntKind.i64 n_3, slice a n_4 m]) r 0 [int IntKind.i64 0]) r
 2 =
 some (int IntKind.i64 n_8) ∧
 ∃ (n_9 : Int),
 Heap.cell (Heap.setN (Heap.setN h r 0 [int IntKind.i64 n, int IntKind.i64 n_1, int IntKind.i64 n_2, int IntKind.i64 n_3, slice a n_4 m]) r 0 [int IntKind.i64 0])
 r 3 =
 some (int IntKind.i64 n_9) ∧
 ∃ (a_1 : Option Addr),
 ∃ (n_10 : Nat),
 ∃ (m_1 : Nat),
 Heap.cell
 (Heap.setN (Heap.setN h r 0 [int IntKind.i64 n, int IntKind.i64 n_1, int IntKind.i64 n_2, int IntKind.i64 n_3, slice a n_4 m]) r 0
 [int IntKind.i64 0])
 r 4 =
 some (slice a_1 n_10 m_1) ∧
 CallA Try.prog 31
 [pointer l, pointer w, int IntKind.i64 many,
 agg #[int IntKind.i64 n_6, int IntKind.i64 n_7, int IntKind.i64 n_8, int IntKind.i64 n_9, slice a_1 n_10 m_1]]
 (Heap.setN (Heap.setN h r 0 [int IntKind.i64 n, int IntKind.i64 n_1, int IntKind.i64 n_2, int IntKind.i64 n_3, slice a n_4 m]) r 0
 [int IntKind.i64 0])
 fun (v : Value) (h : Heap) => ∃ (n : Int), v = int IntKind.i64 n ∧ L_law09_WorthKept_0 many l w t69 t69n t69c t70 (IntKind.wrap IntKind.i64 (t71 + 1)) h K)
 (∃ (n_6 : Int),
 Heap.cell (Heap.setN h r 0 [int IntKind.i64 n, int IntKind.i64 n_1, int IntKind.i64 n_2, int IntKind.i64 n_3, slice a n_4 m]) r 0 = some (int IntKind.i64 n_6) ∧
 ∃ (n_7 : Int),
 Heap.cell (Heap.setN h r 0 [int IntKind.i64 n, int IntKind.i64 n_1, int IntKind.i64 n_2, int IntKind.i64 n_3, slice a n_4 m]) r 1 = some (int IntKind.i64 n_7) ∧
 ∃ (n_8 : Int),
 Heap.cell (Heap.setN h r 0 [int IntKind.i64 n, int IntKind.i64 n_1, int IntKind.i64 n_2, int IntKind.i64 n_3, slice a n_4 m]) r 2 = some (int IntKind.i64 n_8) ∧
 ∃ (n_9 : Int),
 Heap.cell (Heap.setN h r 0 [int IntKind.i64 n, int IntKind.i64 n_1, int IntKind.i64 n_2, int IntKind.i64 n_3, slice a n_4 m]) r 3 = some (int IntKind.i64 n_9) ∧
 ∃ (a_1 : Option Addr),
 ∃ (n_10 : Nat),
 ∃ (m_1 : Nat),
 Heap.cell (Heap.setN h r 0 [int IntKind.i64 n, int IntKind.i64 n_1, int IntKind.i64 n_2, int IntKind.i64 n_3, slice a n_4 m]) r 4 =
 some (slice a_1 n_10 m_1) ∧
 CallA Try.prog 31
 [pointer l, pointer w, int IntKind.i64 many,
 agg #[int IntKind.i64 n_6, int IntKind.i64 n_7, int IntKind.i64 n_8, int IntKind.i64 n_9, slice a_1 n_10 m_1]]
 (Heap.setN h r 0 [int IntKind.i64 n, int IntKind.i64 n_1, int IntKind.i64 n_2, int IntKind.i64 n_3, slice a n_4 m]) fun (v : Value) (h : Heap) =>
 ∃ (n : Int), v = int IntKind.i64 n ∧ L_law09_WorthKept_0 many l w t69 t69n t69c t70 (IntKind.wrap IntKind.i64 (t71 + 1)) h K))
 (CallA Try.prog fn_pworth_Worths_Table [pointer w] h fun (v : Value) (h : Heap) =>
 ∃ (a : Option Addr),
 ∃ (n : Nat),
 ∃ (m : Nat),
 v = slice a n m ∧
 CallA Try.prog fn_worth_New [slice a n m, pointer l] h fun (v : Value) (h : Heap) =>
 ∃ (a : Option Addr), ∃ (n : Int), v = tuple #[pointer a, int IntKind.i64 n] ∧ Br (Option.isNone a) (Ret h K (Value.bool false)) (Br (n != 0) (Ret h K (Value.bool false)) (L_law09_WorthKept_1 many w a 0 h K)))
theorem L_law09_WorthKept_0r (many : Int) (l : Option Addr) (w : Option Addr) (t69 : Option Addr) (t69n : Nat) (t69c : Nat) (t70 : Int) (t71 : Int) (h : Heap) (K : Value → Heap → Prop) (k : L_law09_WorthKept_0T many l w t69 t69n t69c t70 t71 h K) : L_law09_WorthKept_0 many l w t69 t69n t69c t70 t71 h K :=
 LoopAt.of_ev (cs := []) Try.func8 mixed (fun junk => by kernel_rfl) k
def L_law09_WorthKept_1T (many : Int) (w : Option Addr) (v : Option Addr) (m : Int) (h : Heap) (K : Value → Heap → Prop) : Prop :=
 Br (decide (m < many))
 (CallA Try.prog fn_pworth_Worths_Net [pointer w, int IntKind.i64 m] h fun (v_1 : Value) (h : Heap) =>
 ∃ (n : Int),
 ∃ (n_1 : Int),
 v_1 = tuple #[int IntKind.i64 n, int IntKind.i64 n_1] ∧
 CallA Try.prog fn_pworth_Worths_Net [pointer v, int IntKind.i64 m] h fun (v_2 : Value) (h : Heap) =>
 ∃ (n_2 : Int),
 ∃ (n_3 : Int),
 v_2 = tuple #[int IntKind.i64 n_2, int IntKind.i64 n_3] ∧
 CallA Try.prog fn_pworth_Worths_Short [pointer w, int IntKind.i64 m] h fun (v_3 : Value) (h : Heap) =>
 ∃ (n_4 : Int),
 ∃ (n_5 : Int),
 v_3 = tuple #[int IntKind.i64 n_4, int IntKind.i64 n_5] ∧
 CallA Try.prog fn_pworth_Worths_Short [pointer v, int IntKind.i64 m] h fun (v_4 : Value) (h : Heap) =>
 ∃ (n_6 : Int),
 ∃ (n_7 : Int),
 v_4 = tuple #[int IntKind.i64 n_6, int IntKind.i64 n_7] ∧
 CallA Try.prog fn_pworth_Worths_If [pointer w, int IntKind.i64 m, slice none 0 0] h fun (v_5 : Value) (h : Heap) =>
 ∃ (n_8 : Int),
 ∃ (n_9 : Int),
 ∃ (n_10 : Int),
 v_5 = tuple #[int IntKind.i64 n_8, int IntKind.i64 n_9, int IntKind.i64 n_10] ∧
 Br (n != n_2) (Ret h K (Value.bool false))
 (Br (n_1 != n_3) (Ret h K (Value.bool false))
 (Br (n_4 != n_6) (Ret h K (Value.bool false))
 (Br (n_5 != n_7) (Ret h K (Value.bool false))
 (Br (n_1 == 0)
 (Br (n_5 == 0)
 (Br (n_8 != n) (Ret h K (Value.bool false))
 (Br (n_9 != n_4) (Ret h K (Value.bool false)) (Br (n_10 != 0) (Ret h K (Value.bool false)) (L_law09_WorthKept_1 many w v (IntKind.wrap IntKind.i64 (m + 1)) h K))))
 (L_law09_WorthKept_1 many w v (IntKind.wrap IntKind.i64 (m + 1)) h K))
 (L_law09_WorthKept_1 many w v (IntKind.wrap IntKind.i64 (m + 1)) h K))))))
 (Ret h K (Value.bool true))
theorem L_law09_WorthKept_1r (many : Int) (w : Option Addr) (v : Option Addr) (m : Int) (h : Heap) (K : Value → Heap → Prop) (k : L_law09_WorthKept_1T many w v m h K) : L_law09_WorthKept_1 many w v m h K :=
 LoopAt.of_ev (cs := []) Try.func8 mixed (fun junk => by kernel_rfl) k
def F_law09_WorthKeptT (t : Option Addr) (tn : Nat) (tc : Nat) (members : Int) (ops : Option Addr) (opsn : Nat) (opsc : Nat) (h : Heap) (K : Value → Heap → Prop) : Prop :=
 CallA Try.prog fn_law09_awake [] h fun (v : Value) (h : Heap) =>
 ∃ (b : Bool),
 v = Value.bool b ∧
 Br (!b) (Ret h K (Value.bool false))
 (CallA Try.prog fn_law09_large [slice ops opsn opsc] h fun (v : Value) (h : Heap) =>
 ∃ (b : Bool),
 v = Value.bool b ∧
 Br b (Ret h K (Value.bool true))
 (Br (decide ((↑tn : Int) > 20)) (Ret h K (Value.bool true))
 (CallA Try.prog fn_ref03_Check [slice t tn tc] h fun (v : Value) (h : Heap) =>
 ∃ (n : Int),
 v = int IntKind.i64 n ∧
 Br (n != 0) (Ret h K (Value.bool true))
 (CallA Try.prog fn_ledger_New [int IntKind.i64 (IntKind.wrap IntKind.i64 (IntKind.wrap IntKind.i64 (Int.tmod members 16) + 1)), int IntKind.i64 (↑tn : Int)] h fun (v : Value) (h : Heap) =>
 ∃ (a : Option Addr),
 ∃ (n : Int),
 v = tuple #[pointer a, int IntKind.i64 n] ∧
 CallA Try.prog fn_worth_New [slice t tn tc, pointer a] h fun (v : Value) (h : Heap) =>
 ∃ (a_1 : Option Addr),
 ∃ (n : Int),
 v = tuple #[pointer a_1, int IntKind.i64 n] ∧
 Br (Option.isNone a_1) (Ret h K (Value.bool false))
 (Br (Option.isNone a) (Ret h K (Value.bool false))
 (Br (n != 0) (Ret h K (Value.bool false)) (L_law09_WorthKept_0 (IntKind.wrap IntKind.i64 (IntKind.wrap IntKind.i64 (Int.tmod members 16) + 1)) a a_1 ops opsn opsc (↑opsn : Int) 0 h K)))))))
theorem F_law09_WorthKept (t : Option Addr) (tn : Nat) (tc : Nat) (members : Int) (ops : Option Addr) (opsn : Nat) (opsc : Nat) (h : Heap) (K : Value → Heap → Prop) (k : F_law09_WorthKeptT t tn tc members ops opsn opsc h K) : CallA Try.prog fn_law09_WorthKept [slice t tn tc, int IntKind.u8 members, slice ops opsn opsc] h K :=
 CallA.of_ev (cs := []) Try.func8 (by kernel_rfl) (fun _ _ => Try.call8 _ _) mixed (by kernel_rfl) (by kernel_rfl) k
def L_law09_WorthCuts_0 (cur : Int) (low : Int) (high : Int) (many : Int) (l : Option Addr) (w : Option Addr) (t78 : Option Addr) (t78n : Nat) (t78c : Nat) (t79 : Int) (t80 : Int) (h : Heap) (K : Value → Heap → Prop) : Prop :=
 LoopAt Try.prog Try.f9 9 (loopK Try.f9 0) (sp 174 [(3, int IntKind.i64 cur), (4, int IntKind.i64 low), (5, int IntKind.i64 high), (13, int IntKind.i64 many), (14, pointer l), (16, pointer w), (78, slice t78 t78n t78c), (79, int IntKind.i64 t79),
 (80, int IntKind.i64 t80)]) h K
def L_law09_WorthCuts_1 (cur : Int) (high : Int) (many : Int) (w : Option Addr) (nets : Option Addr) (netsn : Nat) (netsc : Nat) (shorts : Option Addr) (shortsn : Nat) (shortsc : Nat) (m : Int) (h : Heap) (K : Value → Heap → Prop) : Prop :=
 LoopAt Try.prog Try.f9 9 (loopK Try.f9 1) (sp 174 [(3, int IntKind.i64 cur), (5, int IntKind.i64 high), (13, int IntKind.i64 many), (16, pointer w), (20, slice nets netsn netsc), (21, slice shorts shortsn shortsc), (22, int IntKind.i64 m)]) h K
def L_law09_WorthCuts_2 (many : Int) (w : Option Addr) (nets : Option Addr) (netsn : Nat) (netsc : Nat) (shorts : Option Addr) (shortsn : Nat) (shortsc : Nat) (m : Int) (h : Heap) (K : Value → Heap → Prop) : Prop :=
 LoopAt Try.prog Try.f9 9 (loopK Try.f9 2) (sp 174 [(13, int IntKind.i64 many), (16, pointer w), (20, slice nets netsn netsc), (21, slice shorts shortsn shortsc), (27, int IntKind.i64 m)]) h K
def L_law09_WorthCuts_0T (cur : Int) (low : Int) (high : Int) (many : Int) (l : Option Addr) (w : Option Addr) (t78 : Option Addr) (t78n : Nat) (t78c : Nat) (t79 : Int) (t80 : Int) (h : Heap) (K : Value → Heap → Prop) : Prop :=
 Br (decide (t80 < t79))
 (0 ≤ t80 ∧
 t80 < (↑t78n : Int) ∧
 withAddr t78 fun (b o : Nat) =>
 ∃ (n : Int),
 Heap.cell h b (o + Int.toNat t80 * 5) = some (int IntKind.i64 n) ∧
 ∃ (n_1 : Int),
 Heap.cell h b (o + Int.toNat t80 * 5 + 1) = some (int IntKind.i64 n_1) ∧
 ∃ (n_2 : Int),
 Heap.cell h b (o + Int.toNat t80 * 5 + 2) = some (int IntKind.i64 n_2) ∧
 ∃ (n_3 : Int),
 Heap.cell h b (o + Int.toNat t80 * 5 + 3) = some (int IntKind.i64 n_3) ∧
 ∃ (a : Option Addr),
 ∃ (n_4 : Nat),
 ∃ (m : Nat),
 Heap.cell h b (o + Int.toNat t80 * 5 + 4) = some (slice a n_4 m) ∧
 newB h [int IntKind.i64 0, int IntKind.i64 0, int IntKind.i64 0, int IntKind.i64 0, slice none 0 0] 53 fun (r : Nat) (h : Heap) =>
 Heap.canSt h r 0 5 ∧
 ∃ (n_5 : Int),
 Heap.cell (Heap.setN h r 0 [int IntKind.i64 n, int IntKind.i64 n_1, int IntKind.i64 n_2, int IntKind.i64 n_3, slice a n_4 m]) r 0 = some (int IntKind.i64 n_5) ∧
 ∃ (n_6 : Int),
 Heap.cell (Heap.setN h r 0 [int IntKind.i64 n, int IntKind.i64 n_1, int IntKind.i64 n_2, int IntKind.i64 n_3, slice a n_4 m]) r 1 = some (int IntKind.i64 n_6) ∧
 ∃ (n_7 : Int),
 Heap.cell (Heap.setN h r 0 [int IntKind.i64 n, int IntKind.i64 n_1, int IntKind.i64 n_2, int IntKind.i64 n_3, slice a n_4 m]) r 2 = some (int IntKind.i64 n_7) ∧
 ∃ (n_8 : Int),
 Heap.cell (Heap.setN h r 0 [int IntKind.i64 n, int IntKind.i64 n_1, int IntKind.i64 n_2, int IntKind.i64 n_3, slice a n_4 m]) r 3 = some (int IntKind.i64 n_8) ∧
 ∃ (a_1 : Option Addr),
 ∃ (n_9 : Nat),
 ∃ (m_1 : Nat),
 Heap.cell (Heap.setN h r 0 [int IntKind.i64 n, int IntKind.i64 n_1, int IntKind.i64 n_2, int IntKind.i64 n_3, slice a n_4 m]) r 4 = some (slice a_1 n_9 m_1) ∧
 CallA Try.prog 31
 [pointer l, pointer w, int IntKind.i64 many, agg #[int IntKind.i64 n_5, int IntKind.i64 n_6, int IntKind.i64 n_7, int IntKind.i64 n_8, slice a_1 n_9 m_1]]
 (Heap.setN h r 0 [int IntKind.i64 n, int IntKind.i64 n_1, int IntKind.i64 n_2, int IntKind.i64 n_3, slice a n_4 m]) fun (v : Value) (h : Heap) =>
 ∃ (n : Int), v = int IntKind.i64 n ∧ L_law09_WorthCuts_0 cur low high many l w t78 t78n t78c t79 (IntKind.wrap IntKind.i64 (t80 + 1)) h K)
 (CallA Try.prog fn_pworth_Worths_Cut [pointer w, int IntKind.i64 cur, int IntKind.i64 low] h fun (v : Value) (h : Heap) =>
 ∃ (n : Int), v = int IntKind.i64 n ∧ Br (n != 0) (Ret h K (Value.bool true)) (L_law09_WorthCuts_1 cur high many w none 0 0 none 0 0 0 h K))
theorem L_law09_WorthCuts_0r (cur : Int) (low : Int) (high : Int) (many : Int) (l : Option Addr) (w : Option Addr) (t78 : Option Addr) (t78n : Nat) (t78c : Nat) (t79 : Int) (t80 : Int) (h : Heap) (K : Value → Heap → Prop) (k : L_law09_WorthCuts_0T cur low high many l w t78 t78n t78c t79 t80 h K) : L_law09_WorthCuts_0 cur low high many l w t78 t78n t78c t79 t80 h K :=
 LoopAt.of_ev (cs := []) Try.func9 mixed (fun junk => by kernel_rfl) k
def L_law09_WorthCuts_1T (cur : Int) (high : Int) (many : Int) (w : Option Addr) (nets : Option Addr) (netsn : Nat) (netsc : Nat) (shorts : Option Addr) (shortsn : Nat) (shortsc : Nat) (m : Int) (h : Heap) (K : Value → Heap → Prop) : Prop :=
 Br (decide (m < many))
 (CallA Try.prog fn_pworth_Worths_Net [pointer w, int IntKind.i64 m] h fun (v : Value) (h : Heap) =>
 ∃ (n : Int),
 ∃ (n_1 : Int),
 v = tuple #[int IntKind.i64 n, int IntKind.i64 n_1] ∧
 CallA Try.prog fn_pworth_Worths_Short [pointer w, int IntKind.i64 m] h fun (v : Value) (h : Heap) =>
 ∃ (n_2 : Int),
 ∃ (n_3 : Int),
 v = tuple #[int IntKind.i64 n_2, int IntKind.i64 n_3] ∧
 Br (n_1 != 0) (Ret h K (Value.bool true))
 (Br (n_3 != 0) (Ret h K (Value.bool true))
 (newB h [int IntKind.i64 n] 2 fun (r : Nat) (h : Heap) =>
 AppA [int IntKind.i64 0] 2 h nets netsn netsc 1 (some { block := r, off := 0 }) fun (ap : Option Addr) (cp : Nat) (h : Heap) =>
 newB h [int IntKind.i64 n_2] 2 fun (r : Nat) (h : Heap) =>
 AppA [int IntKind.i64 0] 2 h shorts shortsn shortsc 1 (some { block := r, off := 0 }) fun (ap_1 : Option Addr) (cp_1 : Nat) (h : Heap) =>
 L_law09_WorthCuts_1 cur high many w ap (netsn + 1) cp ap_1 (shortsn + 1) cp_1 (IntKind.wrap IntKind.i64 (m + 1)) h K)))
 (CallA Try.prog fn_pworth_Worths_Cut [pointer w, int IntKind.i64 cur, int IntKind.i64 high] h fun (v : Value) (h : Heap) =>
 ∃ (n : Int), v = int IntKind.i64 n ∧ Br (n != 0) (Ret h K (Value.bool true)) (L_law09_WorthCuts_2 many w nets netsn netsc shorts shortsn shortsc 0 h K))
theorem L_law09_WorthCuts_1r (cur : Int) (high : Int) (many : Int) (w : Option Addr) (nets : Option Addr) (netsn : Nat) (netsc : Nat) (shorts : Option Addr) (shortsn : Nat) (shortsc : Nat) (m : Int) (h : Heap) (K : Value → Heap → Prop) (k : L_law09_WorthCuts_1T cur high many w nets netsn netsc shorts shortsn shortsc m h K) : L_law09_WorthCuts_1 cur high many w nets netsn netsc shorts shortsn shortsc m h K :=
 LoopAt.of_ev (cs := []) Try.func9 mixed (fun junk => by kernel_rfl) k
def L_law09_WorthCuts_2T (many : Int) (w : Option Addr) (nets : Option Addr) (netsn : Nat) (netsc : Nat) (shorts : Option Addr) (shortsn : Nat) (shortsc : Nat) (m : Int) (h : Heap) (K : Value → Heap → Prop) : Prop :=
 Br (decide (m < many))
 (CallA Try.prog fn_pworth_Worths_Net [pointer w, int IntKind.i64 m] h fun (v : Value) (h : Heap) =>
 ∃ (n : Int),
 ∃ (n_1 : Int),
 v = tuple #[int IntKind.i64 n, int IntKind.i64 n_1] ∧
 CallA Try.prog fn_pworth_Worths_Short [pointer w, int IntKind.i64 m] h fun (v : Value) (h : Heap) =>
 ∃ (n_2 : Int),
 ∃ (n_3 : Int),
 v = tuple #[int IntKind.i64 n_2, int IntKind.i64 n_3] ∧
 Br (n_1 == 0)
 (0 ≤ m ∧
 m < (↑netsn : Int) ∧
 withAddr nets fun (b o : Nat) =>
 ∃ (n_4 : Int),
 Heap.cell h b (o + Int.toNat m) = some (int IntKind.i64 n_4) ∧
 Br (decide (n > n_4)) (Ret h K (Value.bool false))
 (Br (n_3 != 0) (Ret h K (Value.bool false))
 (0 ≤ m ∧
 m < (↑shortsn : Int) ∧
 withAddr shorts fun (b o : Nat) =>
 ∃ (n : Int),
 Heap.cell h b (o + Int.toNat m) = some (int IntKind.i64 n) ∧
 Br (n_2 != n) (Ret h K (Value.bool false))
 (Br (decide (n_2 < 0)) (Ret h K (Value.bool false)) (L_law09_WorthCuts_2 many w nets netsn netsc shorts shortsn shortsc (IntKind.wrap IntKind.i64 (m + 1)) h K)))))
 (Br (n_3 != 0) (Ret h K (Value.bool false))
 (0 ≤ m ∧
 m < (↑shortsn : Int) ∧
 withAddr shorts fun (b o : Nat) =>
 ∃ (n : Int),
 Heap.cell h b (o + Int.toNat m) = some (int IntKind.i64 n) ∧
 Br (n_2 != n) (Ret h K (Value.bool false))
 (Br (decide (n_2 < 0)) (Ret h K (Value.bool false)) (L_law09_WorthCuts_2 many w nets netsn netsc shorts shortsn shortsc (IntKind.wrap IntKind.i64 (m + 1)) h K)))))
 (Ret h K (Value.bool true))
theorem L_law09_WorthCuts_2r (many : Int) (w : Option Addr) (nets : Option Addr) (netsn : Nat) (netsc : Nat) (shorts : Option Addr) (shortsn : Nat) (shortsc : Nat) (m : Int) (h : Heap) (K : Value → Heap → Prop) (k : L_law09_WorthCuts_2T many w nets netsn netsc shorts shortsn shortsc m h K) : L_law09_WorthCuts_2 many w nets netsn netsc shorts shortsn shortsc m h K :=
 LoopAt.of_ev (cs := []) Try.func9 mixed (fun junk => by kernel_rfl) k
def F_law09_WorthCutsT (t : Option Addr) (tn : Nat) (tc : Nat) (members : Int) (ops : Option Addr) (opsn : Nat) (opsc : Nat) (cur : Int) (low : Int) (high : Int) (h : Heap) (K : Value → Heap → Prop) : Prop :=
 CallA Try.prog fn_law09_awake [] h fun (v : Value) (h : Heap) =>
 ∃ (b : Bool),
 v = Value.bool b ∧
 Br (!b) (Ret h K (Value.bool false))
 (CallA Try.prog fn_law09_large [slice ops opsn opsc] h fun (v : Value) (h : Heap) =>
 ∃ (b : Bool),
 v = Value.bool b ∧
 Br b (Ret h K (Value.bool true))
 (Br (decide ((↑tn : Int) > 20)) (Ret h K (Value.bool true))
 (CallA Try.prog fn_ref03_Check [slice t tn tc] h fun (v : Value) (h : Heap) =>
 ∃ (n : Int),
 v = int IntKind.i64 n ∧
 Br (n != 0) (Ret h K (Value.bool true))
 (Br (decide (low > high)) (Ret h K (Value.bool true))
 (CallA Try.prog fn_ledger_New [int IntKind.i64 (IntKind.wrap IntKind.i64 (IntKind.wrap IntKind.i64 (Int.tmod members 16) + 1)), int IntKind.i64 (↑tn : Int)] h fun (v : Value) (h : Heap) =>
 ∃ (a : Option Addr),
 ∃ (n : Int),
 v = tuple #[pointer a, int IntKind.i64 n] ∧
 CallA Try.prog fn_worth_New [slice t tn tc, pointer a] h fun (v : Value) (h : Heap) =>
 ∃ (a_1 : Option Addr),
 ∃ (n : Int),
 v = tuple #[pointer a_1, int IntKind.i64 n] ∧
 Br (Option.isNone a_1) (Ret h K (Value.bool false))
 (Br (Option.isNone a) (Ret h K (Value.bool false))
 (Br (n != 0) (Ret h K (Value.bool false))
 (L_law09_WorthCuts_0 cur low high (IntKind.wrap IntKind.i64 (IntKind.wrap IntKind.i64 (Int.tmod members 16) + 1)) a a_1 ops opsn opsc (↑opsn : Int) 0 h K))))))))
theorem F_law09_WorthCuts (t : Option Addr) (tn : Nat) (tc : Nat) (members : Int) (ops : Option Addr) (opsn : Nat) (opsc : Nat) (cur : Int) (low : Int) (high : Int) (h : Heap) (K : Value → Heap → Prop) (k : F_law09_WorthCutsT t tn tc members ops opsn opsc cur low high h K) : CallA Try.prog fn_law09_WorthCuts [slice t tn tc, int IntKind.u8 members, slice ops opsn opsc, int IntKind.i64 cur, int IntKind.i64 low, int IntKind.i64 high] h K :=
 CallA.of_ev (cs := []) Try.func9 (by kernel_rfl) (fun _ _ => Try.call9 _ _) mixed (by kernel_rfl) (by kernel_rfl) k
end Go.Proofs.Ytghdadniddoboaa

namespace Go.Proofs.Ytghdadniddoboaa
open Go Go.Sy Go.Value
set_option linter.unusedVariables false
set_option maxRecDepth 100000
def L_ref09_Net_0 (t : Option Addr) (tn : Nat) (tc : Nat) (b : Option Addr) (bn : Nat) (bc : Nat) (sum : Int) (c : Int) (h : Heap) (K : Value → Heap → Prop) : Prop :=
 LoopAt Try.prog Try.f40 40 (loopK Try.f40 0) (sp 38 [(0, slice t tn tc), (1, slice b bn bc), (6, int IntKind.i64 sum), (7, int IntKind.i64 c)]) h K
def L_ref09_Net_0T (t : Option Addr) (tn : Nat) (tc : Nat) (b : Option Addr) (bn : Nat) (bc : Nat) (sum : Int) (c : Int) (h : Heap) (K : Value → Heap → Prop) : Prop :=
 Br (decide (c < (↑bn : Int)))
 (0 ≤ c ∧
 c < (↑bn : Int) ∧
 withAddr b fun (b_1 o : Nat) =>
 ∃ (n : Int),
 Heap.cell h b_1 (o + Int.toNat c) = some (int IntKind.i64 n) ∧
 CallA Try.prog fn_ref03_Worth [slice t tn tc, int IntKind.i64 c, int IntKind.i64 n] h fun (v : Value) (h : Heap) =>
 ∃ (n : Int),
 ∃ (n_1 : Int),
 v = tuple #[int IntKind.i64 n, int IntKind.i64 n_1] ∧
 Br (n_1 != 0) (Ret h K (tuple #[int IntKind.i64 0, int IntKind.i64 3]))
 (newB h [int IntKind.i64 n] 2 fun (r : Nat) (h : Heap) =>
 CallA Try.prog fn_ref01_Chain [int IntKind.i64 sum, slice (some { block := r, off := 0 }) 1 1] h fun (v : Value) (h : Heap) =>
 ∃ (n : Int),
 ∃ (n_2 : Int),
 v = tuple #[int IntKind.i64 n, int IntKind.i64 n_2] ∧
 Br (n_2 != 0) (Ret h K (tuple #[int IntKind.i64 0, int IntKind.i64 3])) (L_ref09_Net_0 t tn tc b bn bc n (IntKind.wrap IntKind.i64 (c + 1)) h K)))
 (Ret h K (tuple #[int IntKind.i64 sum, int IntKind.i64 0]))
theorem L_ref09_Net_0r (t : Option Addr) (tn : Nat) (tc : Nat) (b : Option Addr) (bn : Nat) (bc : Nat) (sum : Int) (c : Int) (h : Heap) (K : Value → Heap → Prop) (k : L_ref09_Net_0T t tn tc b bn bc sum c h K) : L_ref09_Net_0 t tn tc b bn bc sum c h K :=
 LoopAt.of_ev (cs := []) Try.func40 mixed (fun junk => by kernel_rfl) k
def F_ref09_NetT (t : Option Addr) (tn : Nat) (tc : Nat) (b : Option Addr) (bn : Nat) (bc : Nat) (h : Heap) (K : Value → Heap → Prop) : Prop :=
 L_ref09_Net_0 t tn tc b bn bc 0 0 h K
theorem F_ref09_Net (t : Option Addr) (tn : Nat) (tc : Nat) (b : Option Addr) (bn : Nat) (bc : Nat) (h : Heap) (K : Value → Heap → Prop) (k : F_ref09_NetT t tn tc b bn bc h K) : CallA Try.prog fn_ref09_Net [slice t tn tc, slice b bn bc] h K :=
 CallA.of_ev (cs := []) Try.func40 (by kernel_rfl) (fun _ _ => Try.call40 _ _) mixed (by kernel_rfl) (by kernel_rfl) k
def L_ref09_Short_0 (t : Option Addr) (tn : Nat) (tc : Nat) (b : Option Addr) (bn : Nat) (bc : Nat) (sum : Int) (c : Int) (h : Heap) (K : Value → Heap → Prop) : Prop :=
 LoopAt Try.prog Try.f41 41 (loopK Try.f41 0) (sp 54 [(0, slice t tn tc), (1, slice b bn bc), (6, int IntKind.i64 sum), (7, int IntKind.i64 c)]) h K
def L_ref09_Short_0T (t : Option Addr) (tn : Nat) (tc : Nat) (b : Option Addr) (bn : Nat) (bc : Nat) (sum : Int) (c : Int) (h : Heap) (K : Value → Heap → Prop) : Prop :=
 Br (decide (c < (↑bn : Int)))
 (0 ≤ c ∧
 c < (↑bn : Int) ∧
 withAddr b fun (b_1 o : Nat) =>
 ∃ (n : Int),
 Heap.cell h b_1 (o + Int.toNat c) = some (int IntKind.i64 n) ∧
 Br (decide (n ≥ 0)) (L_ref09_Short_0 t tn tc b bn bc sum (IntKind.wrap IntKind.i64 (c + 1)) h K)
 (0 ≤ c ∧
 c < (↑bn : Int) ∧
 withAddr b fun (b_2 o : Nat) =>
 ∃ (n : Int),
 Heap.cell h b_2 (o + Int.toNat c) = some (int IntKind.i64 n) ∧
 CallA Try.prog fn_ref03_Plain [slice t tn tc, int IntKind.i64 c, int IntKind.i64 n] h fun (v : Value) (h : Heap) =>
 ∃ (n : Int),
 ∃ (n_1 : Int),
 v = tuple #[int IntKind.i64 n, int IntKind.i64 n_1] ∧
 Br (n_1 != 0) (Ret h K (tuple #[int IntKind.i64 0, int IntKind.i64 3]))
 (CallA Try.prog fn_ref01_Of [int IntKind.i64 n] h fun (v : Value) (h : Heap) =>
 ∃ (b_3 : Bool),
 ∃ (a : Option Addr),
 ∃ (n : Nat),
 ∃ (m : Nat),
 v = agg #[Value.bool b_3, slice a n m] ∧
 CallA Try.prog fn_ref01_Turned [agg #[Value.bool b_3, slice a n m]] h fun (v : Value) (h : Heap) =>
 ∃ (b_4 : Bool),
 ∃ (a : Option Addr),
 ∃ (n : Nat),
 ∃ (m : Nat),
 v = agg #[Value.bool b_4, slice a n m] ∧
 CallA Try.prog fn_ref01_Fit [agg #[Value.bool b_4, slice a n m]] h fun (v : Value) (h : Heap) =>
 ∃ (n : Int),
 ∃ (n_2 : Int),
 v = tuple #[int IntKind.i64 n, int IntKind.i64 n_2] ∧
 Br (n_2 != 0) (Ret h K (tuple #[int IntKind.i64 0, int IntKind.i64 3]))
 (newB h [int IntKind.i64 n] 2 fun (r : Nat) (h : Heap) =>
 CallA Try.prog fn_ref01_Chain [int IntKind.i64 sum, slice (some { block := r, off := 0 }) 1 1] h fun (v : Value) (h : Heap) =>
 ∃ (n : Int),
 ∃ (n_3 : Int),
 v = tuple #[int IntKind.i64 n, int IntKind.i64 n_3] ∧
 Br (n_3 != 0) (Ret h K (tuple #[int IntKind.i64 0, int IntKind.i64 3])) (L_ref09_Short_0 t tn tc b bn bc n (IntKind.wrap IntKind.i64 (c + 1)) h K)))))
 (Ret h K (tuple #[int IntKind.i64 sum, int IntKind.i64 0]))
theorem L_ref09_Short_0r (t : Option Addr) (tn : Nat) (tc : Nat) (b : Option Addr) (bn : Nat) (bc : Nat) (sum : Int) (c : Int) (h : Heap) (K : Value → Heap → Prop) (k : L_ref09_Short_0T t tn tc b bn bc sum c h K) : L_ref09_Short_0 t tn tc b bn bc sum c h K :=
 LoopAt.of_ev (cs := []) Try.func41 mixed (fun junk => by kernel_rfl) k
def F_ref09_ShortT (t : Option Addr) (tn : Nat) (tc : Nat) (b : Option Addr) (bn : Nat) (bc : Nat) (h : Heap) (K : Value → Heap → Prop) : Prop :=
 L_ref09_Short_0 t tn tc b bn bc 0 0 h K
theorem F_ref09_Short (t : Option Addr) (tn : Nat) (tc : Nat) (b : Option Addr) (bn : Nat) (bc : Nat) (h : Heap) (K : Value → Heap → Prop) (k : F_ref09_ShortT t tn tc b bn bc h K) : CallA Try.prog fn_ref09_Short [slice t tn tc, slice b bn bc] h K :=
 CallA.of_ev (cs := []) Try.func41 (by kernel_rfl) (fun _ _ => Try.call41 _ _) mixed (by kernel_rfl) (by kernel_rfl) k
def L_ref09_If_0 (t : Option Addr) (tn : Nat) (tc : Nat) (member : Int) (batch : Option Addr) (batchn : Nat) (batchc : Nat) (l : Option Addr) (ln : Nat) (lc : Nat) (i : Int) (h : Heap) (K : Value → Heap → Prop) : Prop :=
 LoopAt Try.prog Try.f42 42 (loopK Try.f42 0) (sp 99 [(0, slice t tn tc), (2, int IntKind.i64 member), (3, slice batch batchn batchc), (11, slice l ln lc), (12, int IntKind.i64 i)]) h K
def L_ref09_If_1 (t : Option Addr) (tn : Nat) (tc : Nat) (member : Int) (batch : Option Addr) (batchn : Nat) (batchc : Nat) (l : Option Addr) (ln : Nat) (lc : Nat) (i : Int) (h : Heap) (K : Value → Heap → Prop) : Prop :=
 LoopAt Try.prog Try.f42 42 (loopK Try.f42 1) (sp 99 [(0, slice t tn tc), (2, int IntKind.i64 member), (3, slice batch batchn batchc), (11, slice l ln lc), (14, int IntKind.i64 i)]) h K
def L_ref09_If_0T (t : Option Addr) (tn : Nat) (tc : Nat) (member : Int) (batch : Option Addr) (batchn : Nat) (batchc : Nat) (l : Option Addr) (ln : Nat) (lc : Nat) (i : Int) (h : Heap) (K : Value → Heap → Prop) : Prop :=
 Br (decide (i < (↑batchn : Int)))
 (0 ≤ i ∧
 i < (↑batchn : Int) ∧
 withAddr batch fun (b o : Nat) =>
 ∃ (n : Int),
 Heap.cell h b (o + Int.toNat i * 3) = some (int IntKind.i64 n) ∧
 ∃ (n_1 : Int),
 Heap.cell h b (o + Int.toNat i * 3 + 1) = some (int IntKind.i64 n_1) ∧
 ∃ (n_2 : Int),
 Heap.cell h b (o + Int.toNat i * 3 + 2) = some (int IntKind.i64 n_2) ∧
 newB h [int IntKind.i64 0, int IntKind.i64 0, int IntKind.i64 0] 86 fun (r : Nat) (h : Heap) =>
 Heap.canSt h r 0 3 ∧
 ∃ (n_3 : Int),
 Heap.cell (Heap.setN h r 0 [int IntKind.i64 n, int IntKind.i64 n_1, int IntKind.i64 n_2]) r 1 = some (int IntKind.i64 n_3) ∧
 Br (decide (n_3 < 0)) (Ret (Heap.setN h r 0 [int IntKind.i64 n, int IntKind.i64 n_1, int IntKind.i64 n_2]) K (tuple #[int IntKind.i64 0, int IntKind.i64 0, int IntKind.i64 1]))
 (∃ (n_4 : Int),
 Heap.cell (Heap.setN h r 0 [int IntKind.i64 n, int IntKind.i64 n_1, int IntKind.i64 n_2]) r 1 = some (int IntKind.i64 n_4) ∧
 Br (decide (n_4 ≥ (↑ln : Int))) (Ret (Heap.setN h r 0 [int IntKind.i64 n, int IntKind.i64 n_1, int IntKind.i64 n_2]) K (tuple #[int IntKind.i64 0, int IntKind.i64 0, int IntKind.i64 1]))
 (L_ref09_If_0 t tn tc member batch batchn batchc l ln lc (IntKind.wrap IntKind.i64 (i + 1)) (Heap.setN h r 0 [int IntKind.i64 n, int IntKind.i64 n_1, int IntKind.i64 n_2]) K)))
 (L_ref09_If_1 t tn tc member batch batchn batchc l ln lc 0 h K)
theorem L_ref09_If_0r (t : Option Addr) (tn : Nat) (tc : Nat) (member : Int) (batch : Option Addr) (batchn : Nat) (batchc : Nat) (l : Option Addr) (ln : Nat) (lc : Nat) (i : Int) (h : Heap) (K : Value → Heap → Prop) (k : L_ref09_If_0T t tn tc member batch batchn batchc l ln lc i h K) : L_ref09_If_0 t tn tc member batch batchn batchc l ln lc i h K :=
 LoopAt.of_ev (cs := []) Try.func42 mixed (fun junk => by kernel_rfl) k
def L_ref09_If_1T (t : Option Addr) (tn : Nat) (tc : Nat) (member : Int) (batch : Option Addr) (batchn : Nat) (batchc : Nat) (l : Option Addr) (ln : Nat) (lc : Nat) (i : Int) (h : Heap) (K : Value → Heap → Prop) : Prop :=
 Br (decide (i < (↑batchn : Int)))
 (0 ≤ i ∧
 i < (↑batchn : Int) ∧
 withAddr batch fun (b o : Nat) =>
 ∃ (n : Int),
 Heap.cell h b (o + Int.toNat i * 3) = some (int IntKind.i64 n) ∧
 ∃ (n_1 : Int),
 Heap.cell h b (o + Int.toNat i * 3 + 1) = some (int IntKind.i64 n_1) ∧
 ∃ (n_2 : Int),
 Heap.cell h b (o + Int.toNat i * 3 + 2) = some (int IntKind.i64 n_2) ∧
 newB h [int IntKind.i64 0, int IntKind.i64 0, int IntKind.i64 0] 86 fun (r : Nat) (h : Heap) =>
 Heap.canSt h r 0 3 ∧
 ∃ (n_3 : Int),
 Heap.cell (Heap.setN h r 0 [int IntKind.i64 n, int IntKind.i64 n_1, int IntKind.i64 n_2]) r 0 = some (int IntKind.i64 n_3) ∧
 Br (n_3 != member) (L_ref09_If_1 t tn tc member batch batchn batchc l ln lc (IntKind.wrap IntKind.i64 (i + 1)) (Heap.setN h r 0 [int IntKind.i64 n, int IntKind.i64 n_1, int IntKind.i64 n_2]) K)
 (∃ (n_4 : Int),
 Heap.cell (Heap.setN h r 0 [int IntKind.i64 n, int IntKind.i64 n_1, int IntKind.i64 n_2]) r 1 = some (int IntKind.i64 n_4) ∧
 0 ≤ n_4 ∧
 n_4 < (↑ln : Int) ∧
 withAddr l fun (b o : Nat) =>
 ∃ (n_5 : Int),
 Heap.cell (Heap.setN h r 0 [int IntKind.i64 n, int IntKind.i64 n_1, int IntKind.i64 n_2]) b (o + Int.toNat n_4) = some (int IntKind.i64 n_5) ∧
 ∃ (n_6 : Int),
 Heap.cell (Heap.setN h r 0 [int IntKind.i64 n, int IntKind.i64 n_1, int IntKind.i64 n_2]) r 2 = some (int IntKind.i64 n_6) ∧
 newB (Heap.setN h r 0 [int IntKind.i64 n, int IntKind.i64 n_1, int IntKind.i64 n_2]) [int IntKind.i64 n_6] 2 fun (r_1 : Nat) (h : Heap) =>
 CallA Try.prog fn_ref01_Chain [int IntKind.i64 n_5, slice (some { block := r_1, off := 0 }) 1 1] h fun (v : Value) (h : Heap) =>
 ∃ (n : Int),
 ∃ (n_7 : Int),
 v = tuple #[int IntKind.i64 n, int IntKind.i64 n_7] ∧
 Br (n_7 != 0) (Ret h K (tuple #[int IntKind.i64 0, int IntKind.i64 0, int IntKind.i64 n_7]))
 (∃ (n_8 : Int),
 Heap.cell h r 1 = some (int IntKind.i64 n_8) ∧
 0 ≤ n_8 ∧
 n_8 < (↑ln : Int) ∧
 withAddr l fun (b o : Nat) =>
 Heap.canSt h b (o + Int.toNat n_8) 1 ∧
 L_ref09_If_1 t tn tc member batch batchn batchc l ln lc (IntKind.wrap IntKind.i64 (i + 1)) (Heap.setN h b (o + Int.toNat n_8) [int IntKind.i64 n]) K)))
 (CallA Try.prog fn_ref09_Net [slice t tn tc, slice l ln lc] h fun (v : Value) (h : Heap) =>
 ∃ (n : Int),
 ∃ (n_1 : Int),
 v = tuple #[int IntKind.i64 n, int IntKind.i64 n_1] ∧
 CallA Try.prog fn_ref09_Short [slice t tn tc, slice l ln lc] h fun (v : Value) (h : Heap) =>
 ∃ (n_2 : Int),
 ∃ (n_3 : Int),
 v = tuple #[int IntKind.i64 n_2, int IntKind.i64 n_3] ∧
 Br (n_1 != 0) (Ret h K (tuple #[int IntKind.i64 0, int IntKind.i64 0, int IntKind.i64 3]))
 (Br (n_3 != 0) (Ret h K (tuple #[int IntKind.i64 0, int IntKind.i64 0, int IntKind.i64 3])) (Ret h K (tuple #[int IntKind.i64 n, int IntKind.i64 n_2, int IntKind.i64 0]))))
theorem L_ref09_If_1r (t : Option Addr) (tn : Nat) (tc : Nat) (member : Int) (batch : Option Addr) (batchn : Nat) (batchc : Nat) (l : Option Addr) (ln : Nat) (lc : Nat) (i : Int) (h : Heap) (K : Value → Heap → Prop) (k : L_ref09_If_1T t tn tc member batch batchn batchc l ln lc i h K) : L_ref09_If_1 t tn tc member batch batchn batchc l ln lc i h K :=
 LoopAt.of_ev (cs := []) Try.func42 mixed (fun junk => by kernel_rfl) k
def F_ref09_IfT (t : Option Addr) (tn : Nat) (tc : Nat) (b : Option Addr) (bn : Nat) (bc : Nat) (member : Int) (batch : Option Addr) (batchn : Nat) (batchc : Nat) (h : Heap) (K : Value → Heap → Prop) : Prop :=
 newB h [] 2 fun (r : Nat) (h : Heap) => AppA [int IntKind.i64 0] 2 h (some { block := r, off := 0 }) 0 0 bn b fun (ap : Option Addr) (cp : Nat) (h : Heap) => L_ref09_If_0 t tn tc member batch batchn batchc ap (0 + bn) cp 0 h K
theorem F_ref09_If (t : Option Addr) (tn : Nat) (tc : Nat) (b : Option Addr) (bn : Nat) (bc : Nat) (member : Int) (batch : Option Addr) (batchn : Nat) (batchc : Nat) (h : Heap) (K : Value → Heap → Prop) (k : F_ref09_IfT t tn tc b bn bc member batch batchn batchc h K) : CallA Try.prog fn_ref09_If [slice t tn tc, slice b bn bc, int IntKind.i64 member, slice batch batchn batchc] h K :=
 CallA.of_ev (cs := []) Try.func42 (by kernel_rfl) (fun _ _ => Try.call42 _ _) mixed (by kernel_rfl) (by kernel_rfl) k
end Go.Proofs.Ytghdadniddoboaa

namespace Go.Proofs.Ytghdadniddoboaa
open Go Go.Sy Go.Value
set_option linter.unusedVariables false
set_option maxRecDepth 100000
def L_ref08_New_0 (members : Int) (currencies : Int) (l : Nat) (i : Int) (h : Heap) (K : Value → Heap → Prop) : Prop :=
 LoopAt Try.prog Try.f27 27 (loopK Try.f27 0) (sp 43 [(0, int IntKind.i64 members), (1, int IntKind.i64 currencies), (6, pointer (some { block := l, off := 0 })), (7, int IntKind.i64 i)]) h K
def L_ref08_New_0T (members : Int) (currencies : Int) (l : Nat) (i : Int) (h : Heap) (K : Value → Heap → Prop) : Prop :=
 Br (decide (i < members))
 (∃ (a : Option Addr),
 ∃ (n : Nat),
 ∃ (m : Nat),
 Heap.cell h l 0 = some (slice a n m) ∧
 0 ≤ currencies ∧
 currencies ≤ currencies ∧
 currencies ≤ 281474976710656 ∧
 8 * currencies ≤ 281474976710656 ∧
 newB h (repL (Int.toNat currencies) [int IntKind.i64 0]) 2 fun (r : Nat) (h : Heap) =>
 newB h [slice (some { block := r, off := 0 }) (Int.toNat currencies) (Int.toNat currencies)] 22 fun (r : Nat) (h : Heap) =>
 AppA [slice none 0 0] 22 h a n m 1 (some { block := r, off := 0 }) fun (ap : Option Addr) (cp : Nat) (h : Heap) =>
 Heap.canSt h l 0 1 ∧ L_ref08_New_0 members currencies l (IntKind.wrap IntKind.i64 (i + 1)) (Heap.setN h l 0 [slice ap (n + 1) cp]) K)
 (Ret h K (tuple #[pointer (some { block := l, off := 0 }), int IntKind.i64 0]))
theorem L_ref08_New_0r (members : Int) (currencies : Int) (l : Nat) (i : Int) (h : Heap) (K : Value → Heap → Prop) (k : L_ref08_New_0T members currencies l i h K) : L_ref08_New_0 members currencies l i h K :=
 LoopAt.of_ev (cs := []) Try.func27 mixed (fun junk => by kernel_rfl) k
def F_ref08_NewT (members : Int) (currencies : Int) (h : Heap) (K : Value → Heap → Prop) : Prop :=
 Br (decide (members < 1)) (Ret h K (tuple #[pointer none, int IntKind.i64 1]))
 (Br (decide (members > 16)) (Ret h K (tuple #[pointer none, int IntKind.i64 1]))
 (Br (decide (currencies < 1)) (Ret h K (tuple #[pointer none, int IntKind.i64 1]))
 (Br (decide (currencies > 8)) (Ret h K (tuple #[pointer none, int IntKind.i64 1]))
 (0 ≤ currencies ∧
 currencies ≤ currencies ∧
 currencies ≤ 281474976710656 ∧
 8 * currencies ≤ 281474976710656 ∧
 newB h (repL (Int.toNat currencies) [int IntKind.i64 0]) 2 fun (r : Nat) (h : Heap) =>
 newB h [slice none 0 0, slice (some { block := r, off := 0 }) (Int.toNat currencies) (Int.toNat currencies)] 58 fun (r : Nat) (h : Heap) => L_ref08_New_0 members currencies r 0 h K))))
theorem F_ref08_New (members : Int) (currencies : Int) (h : Heap) (K : Value → Heap → Prop) (k : F_ref08_NewT members currencies h K) : CallA Try.prog fn_ref08_New [int IntKind.i64 members, int IntKind.i64 currencies] h K :=
 CallA.of_ev (cs := []) Try.func27 (by kernel_rfl) (fun _ _ => Try.call27 _ _) mixed (by kernel_rfl) (by kernel_rfl) k
def F_pref08_Ledger_HasT (l : Option Addr) (member : Int) (cur : Int) (h : Heap) (K : Value → Heap → Prop) : Prop :=
 Br (decide (member ≥ 0))
 (withAddr l fun (b o : Nat) =>
 ∃ (a : Option Addr),
 ∃ (n : Nat),
 ∃ (m : Nat),
 Heap.cell h b o = some (slice a n m) ∧
 Br (decide (member < (↑n : Int)))
 (Br (decide (cur ≥ 0)) (withAddr l fun (b o : Nat) => ∃ (a : Option Addr), ∃ (n : Nat), ∃ (m : Nat), Heap.cell h b (o + 1) = some (slice a n m) ∧ Ret h K (Value.bool (decide (cur < (↑n : Int)))))
 (Ret h K (Value.bool false)))
 (Ret h K (Value.bool false)))
 (Ret h K (Value.bool false))
theorem F_pref08_Ledger_Has (l : Option Addr) (member : Int) (cur : Int) (h : Heap) (K : Value → Heap → Prop) (k : F_pref08_Ledger_HasT l member cur h K) : CallA Try.prog fn_pref08_Ledger_Has [pointer l, int IntKind.i64 member, int IntKind.i64 cur] h K :=
 CallA.of_ev (cs := []) Try.func81 (by kernel_rfl) (fun _ _ => Try.call81 _ _) mixed (by kernel_rfl) (by kernel_rfl) k
def L_pref08_Ledger_Copy_0 (l : Option Addr) (m : Nat) (i : Int) (h : Heap) (K : Value → Heap → Prop) : Prop :=
 LoopAt Try.prog Try.f30 30 (loopK Try.f30 0) (sp 41 [(0, pointer l), (3, pointer (some { block := m, off := 0 })), (4, int IntKind.i64 i)]) h K
def L_pref08_Ledger_Copy_0T (l : Option Addr) (m : Nat) (i : Int) (h : Heap) (K : Value → Heap → Prop) : Prop :=
 withAddr l fun (b o : Nat) =>
 ∃ (a : Option Addr),
 ∃ (n : Nat),
 ∃ (m_1 : Nat),
 Heap.cell h b o = some (slice a n m_1) ∧
 Br (decide (i < (↑n : Int)))
 (∃ (a : Option Addr),
 ∃ (n : Nat),
 ∃ (m_2 : Nat),
 Heap.cell h m 0 = some (slice a n m_2) ∧
 withAddr l fun (b o : Nat) =>
 ∃ (a_1 : Option Addr),
 ∃ (n_1 : Nat),
 ∃ (m_3 : Nat),
 Heap.cell h b o = some (slice a_1 n_1 m_3) ∧
 0 ≤ i ∧
 i < (↑n_1 : Int) ∧
 withAddr a_1 fun (b o : Nat) =>
 ∃ (a_2 : Option Addr),
 ∃ (n_2 : Nat),
 ∃ (m_4 : Nat),
 Heap.cell h b (o + Int.toNat i) = some (slice a_2 n_2 m_4) ∧
 newB h [] 2 fun (r : Nat) (h : Heap) =>
 AppA [int IntKind.i64 0] 2 h (some { block := r, off := 0 }) 0 0 n_2 a_2 fun (ap : Option Addr) (cp : Nat) (h_1 : Heap) =>
 (Heap.le h h_1 ∨ Keeps [m] h h_1) ∧
 newB h_1 [slice ap (0 + n_2) cp] 22 fun (r : Nat) (h : Heap) =>
 AppA [slice none 0 0] 22 h a n m_2 1 (some { block := r, off := 0 }) fun (ap : Option Addr) (cp : Nat) (h : Heap) =>
 Heap.canSt h m 0 1 ∧ L_pref08_Ledger_Copy_0 l m (IntKind.wrap IntKind.i64 (i + 1)) (Heap.setN h m 0 [slice ap (n + 1) cp]) K)
 (Ret h K (pointer (some { block := m, off := 0 })))
theorem L_pref08_Ledger_Copy_0r (l : Option Addr) (m : Nat) (i : Int) (h : Heap) (K : Value → Heap → Prop) (k : L_pref08_Ledger_Copy_0T l m i h K) : L_pref08_Ledger_Copy_0 l m i h K :=
 LoopAt.of_ev (cs := []) Try.func30 mixed (fun junk => by kernel_rfl) k
def F_pref08_Ledger_CopyT (l : Option Addr) (h : Heap) (K : Value → Heap → Prop) : Prop :=
 newB h [] 2 fun (r : Nat) (h : Heap) =>
 withAddr l fun (b o : Nat) =>
 ∃ (a : Option Addr),
 ∃ (n : Nat),
 ∃ (m : Nat),
 Heap.cell h b (o + 1) = some (slice a n m) ∧
 AppA [int IntKind.i64 0] 2 h (some { block := r, off := 0 }) 0 0 n a fun (ap : Option Addr) (cp : Nat) (h : Heap) => newB h [slice none 0 0, slice ap (0 + n) cp] 58 fun (r : Nat) (h : Heap) => L_pref08_Ledger_Copy_0 l r 0 h K
theorem F_pref08_Ledger_Copy (l : Option Addr) (h : Heap) (K : Value → Heap → Prop) (k : F_pref08_Ledger_CopyT l h K) : CallA Try.prog fn_pref08_Ledger_Copy [pointer l] h K :=
 CallA.of_ev (cs := []) Try.func30 (by kernel_rfl) (fun _ _ => Try.call30 _ _) mixed (by kernel_rfl) (by kernel_rfl) k
def L_pref08_Ledger_Post_0 (l : Option Addr) (batch : Option Addr) (batchn : Nat) (batchc : Nat) (sums : Option Addr) (sumsn : Nat) (sumsc : Nat) (i : Int) (h : Heap) (K : Value → Heap → Prop) : Prop :=
 LoopAt Try.prog Try.f33 33 (loopK Try.f33 0) (sp 135 [(0, pointer l), (1, slice batch batchn batchc), (5, slice sums sumsn sumsc), (6, int IntKind.i64 i)]) h K
def L_pref08_Ledger_Post_1 (l : Option Addr) (batch : Option Addr) (batchn : Nat) (batchc : Nat) (sums : Option Addr) (sumsn : Nat) (sumsc : Nat) (i : Int) (h : Heap) (K : Value → Heap → Prop) : Prop :=
 LoopAt Try.prog Try.f33 33 (loopK Try.f33 1) (sp 135 [(0, pointer l), (1, slice batch batchn batchc), (5, slice sums sumsn sumsc), (7, int IntKind.i64 i)]) h K
def L_pref08_Ledger_Post_2 (l : Option Addr) (batch : Option Addr) (batchn : Nat) (batchc : Nat) (sums : Option Addr) (sumsn : Nat) (sumsc : Nat) (c : Int) (h : Heap) (K : Value → Heap → Prop) : Prop :=
 LoopAt Try.prog Try.f33 33 (loopK Try.f33 2) (sp 135 [(0, pointer l), (1, slice batch batchn batchc), (5, slice sums sumsn sumsc), (8, int IntKind.i64 c)]) h K
def L_pref08_Ledger_Post_3 (l : Option Addr) (batch : Option Addr) (batchn : Nat) (batchc : Nat) (m : Option Addr) (i : Int) (h : Heap) (K : Value → Heap → Prop) : Prop :=
 LoopAt Try.prog Try.f33 33 (loopK Try.f33 3) (sp 135 [(0, pointer l), (1, slice batch batchn batchc), (9, pointer m), (10, int IntKind.i64 i)]) h K
def L_pref08_Ledger_Post_0T (l : Option Addr) (batch : Option Addr) (batchn : Nat) (batchc : Nat) (sums : Option Addr) (sumsn : Nat) (sumsc : Nat) (i : Int) (h : Heap) (K : Value → Heap → Prop) : Prop :=
 Br (decide (i < (↑batchn : Int)))
 (0 ≤ i ∧
 i < (↑batchn : Int) ∧
 withAddr batch fun (b o : Nat) =>
 ∃ (n : Int),
 Heap.cell h b (o + Int.toNat i * 3) = some (int IntKind.i64 n) ∧
 0 ≤ i ∧
 i < (↑batchn : Int) ∧
 withAddr batch fun (b o : Nat) =>
 ∃ (n_1 : Int),
 Heap.cell h b (o + Int.toNat i * 3 + 1) = some (int IntKind.i64 n_1) ∧
 CallA Try.prog fn_pref08_Ledger_Has [pointer l, int IntKind.i64 n, int IntKind.i64 n_1] h fun (v : Value) (h : Heap) =>
 ∃ (b : Bool), v = Value.bool b ∧ Br (!b) (Ret h K (int IntKind.i64 1)) (L_pref08_Ledger_Post_0 l batch batchn batchc sums sumsn sumsc (IntKind.wrap IntKind.i64 (i + 1)) h K))
 (L_pref08_Ledger_Post_1 l batch batchn batchc sums sumsn sumsc 0 h K)
theorem L_pref08_Ledger_Post_0r (l : Option Addr) (batch : Option Addr) (batchn : Nat) (batchc : Nat) (sums : Option Addr) (sumsn : Nat) (sumsc : Nat) (i : Int) (h : Heap) (K : Value → Heap → Prop) (k : L_pref08_Ledger_Post_0T l batch batchn batchc sums sumsn sumsc i h K) : L_pref08_Ledger_Post_0 l batch batchn batchc sums sumsn sumsc i h K :=
 LoopAt.of_ev (cs := []) Try.func33 mixed (fun junk => by kernel_rfl) k
def L_pref08_Ledger_Post_1T (l : Option Addr) (batch : Option Addr) (batchn : Nat) (batchc : Nat) (sums : Option Addr) (sumsn : Nat) (sumsc : Nat) (i : Int) (h : Heap) (K : Value → Heap → Prop) : Prop :=
 Br (decide (i < (↑batchn : Int)))
 (0 ≤ i ∧
 i < (↑batchn : Int) ∧
 withAddr batch fun (b o : Nat) =>
 ∃ (n : Int),
 Heap.cell h b (o + Int.toNat i * 3 + 1) = some (int IntKind.i64 n) ∧
 0 ≤ i ∧
 i < (↑batchn : Int) ∧
 withAddr batch fun (b_1 o : Nat) =>
 ∃ (n_1 : Int),
 Heap.cell h b_1 (o + Int.toNat i * 3 + 1) = some (int IntKind.i64 n_1) ∧
 0 ≤ n_1 ∧
 n_1 < (↑sumsn : Int) ∧
 withAddr sums fun (b_2 o : Nat) =>
 ∃ (b_3 : Bool),
 Heap.cell h b_2 (o + Int.toNat n_1 * 2) = some (Value.bool b_3) ∧
 ∃ (a : Option Addr),
 ∃ (n_2 : Nat),
 ∃ (m : Nat),
 Heap.cell h b_2 (o + Int.toNat n_1 * 2 + 1) = some (slice a n_2 m) ∧
 0 ≤ i ∧
 i < (↑batchn : Int) ∧
 withAddr batch fun (b_4 o : Nat) =>
 ∃ (n_3 : Int),
 Heap.cell h b_4 (o + Int.toNat i * 3 + 2) = some (int IntKind.i64 n_3) ∧
 CallA Try.prog fn_ref01_Of [int IntKind.i64 n_3] h fun (v : Value) (h_1 : Heap) =>
 ∃ (b_5 : Bool),
 ∃ (a_1 : Option Addr),
 ∃ (n_4 : Nat),
 ∃ (m_1 : Nat),
 v = agg #[Value.bool b_5, slice a_1 n_4 m_1] ∧
 (Heap.le h h_1 ∨ Keeps [b, b_1, b_2] h h_1) ∧
 CallA Try.prog fn_ref01_Add [agg #[Value.bool b_3, slice a n_2 m], agg #[Value.bool b_5, slice a_1 n_4 m_1]] h_1 fun (v : Value) (h : Heap) =>
 ∃ (b_6 : Bool),
 ∃ (a : Option Addr),
 ∃ (n_5 : Nat),
 ∃ (m : Nat),
 v = agg #[Value.bool b_6, slice a n_5 m] ∧
 (Heap.le h_1 h ∨ Keeps [b] h_1 h) ∧
 0 ≤ n ∧
 n < (↑sumsn : Int) ∧
 withAddr sums fun (b o : Nat) =>
 Heap.canSt h b (o + Int.toNat n * 2) 2 ∧
 L_pref08_Ledger_Post_1 l batch batchn batchc sums sumsn sumsc (IntKind.wrap IntKind.i64 (i + 1))
 (Heap.setN h b (o + Int.toNat n * 2) [Value.bool b_6, slice a n_5 m]) K)
 (L_pref08_Ledger_Post_2 l batch batchn batchc sums sumsn sumsc 0 h K)
theorem L_pref08_Ledger_Post_1r (l : Option Addr) (batch : Option Addr) (batchn : Nat) (batchc : Nat) (sums : Option Addr) (sumsn : Nat) (sumsc : Nat) (i : Int) (h : Heap) (K : Value → Heap → Prop) (k : L_pref08_Ledger_Post_1T l batch batchn batchc sums sumsn sumsc i h K) : L_pref08_Ledger_Post_1 l batch batchn batchc sums sumsn sumsc i h K :=
 LoopAt.of_ev (cs := []) Try.func33 mixed (fun junk => by kernel_rfl) k
def L_pref08_Ledger_Post_2T (l : Option Addr) (batch : Option Addr) (batchn : Nat) (batchc : Nat) (sums : Option Addr) (sumsn : Nat) (sumsc : Nat) (c : Int) (h : Heap) (K : Value → Heap → Prop) : Prop :=
 Br (decide (c < (↑sumsn : Int)))
 (0 ≤ c ∧
 c < (↑sumsn : Int) ∧
 withAddr sums fun (b o : Nat) =>
 ∃ (a : Option Addr),
 ∃ (n : Nat),
 ∃ (m : Nat),
 Heap.cell h b (o + Int.toNat c * 2 + 1) = some (slice a n m) ∧
 Br (decide ((↑n : Int) > 0)) (Ret h K (int IntKind.i64 12)) (L_pref08_Ledger_Post_2 l batch batchn batchc sums sumsn sumsc (IntKind.wrap IntKind.i64 (c + 1)) h K))
 (CallA Try.prog fn_pref08_Ledger_Copy [pointer l] h fun (v : Value) (h : Heap) => ∃ (a : Option Addr), v = pointer a ∧ L_pref08_Ledger_Post_3 l batch batchn batchc a 0 h K)
theorem L_pref08_Ledger_Post_2r (l : Option Addr) (batch : Option Addr) (batchn : Nat) (batchc : Nat) (sums : Option Addr) (sumsn : Nat) (sumsc : Nat) (c : Int) (h : Heap) (K : Value → Heap → Prop) (k : L_pref08_Ledger_Post_2T l batch batchn batchc sums sumsn sumsc c h K) : L_pref08_Ledger_Post_2 l batch batchn batchc sums sumsn sumsc c h K :=
 LoopAt.of_ev (cs := []) Try.func33 mixed (fun junk => by kernel_rfl) k
def L_pref08_Ledger_Post_3T (l : Option Addr) (batch : Option Addr) (batchn : Nat) (batchc : Nat) (m : Option Addr) (i : Int) (h : Heap) (K : Value → Heap → Prop) : Prop :=
 Br (decide (i < (↑batchn : Int)))
 (0 ≤ i ∧
 i < (↑batchn : Int) ∧
 withAddr batch fun (b o : Nat) =>
 ∃ (n : Int),
 Heap.cell h b (o + Int.toNat i * 3) = some (int IntKind.i64 n) ∧
 ∃ (n_1 : Int),
 Heap.cell h b (o + Int.toNat i * 3 + 1) = some (int IntKind.i64 n_1) ∧
 ∃ (n_2 : Int),
 Heap.cell h b (o + Int.toNat i * 3 + 2) = some (int IntKind.i64 n_2) ∧
 newB h [int IntKind.i64 0, int IntKind.i64 0, int IntKind.i64 0] 86 fun (r : Nat) (h : Heap) =>
 Heap.canSt h r 0 3 ∧
 withAddr m fun (b o : Nat) =>
 ∃ (a : Option Addr),
 ∃ (n_3 : Nat),
 ∃ (m_1 : Nat),
 Heap.cell (Heap.setN h r 0 [int IntKind.i64 n, int IntKind.i64 n_1, int IntKind.i64 n_2]) b o = some (slice a n_3 m_1) ∧
 ∃ (n_4 : Int),
 Heap.cell (Heap.setN h r 0 [int IntKind.i64 n, int IntKind.i64 n_1, int IntKind.i64 n_2]) r 0 = some (int IntKind.i64 n_4) ∧
 0 ≤ n_4 ∧
 n_4 < (↑n_3 : Int) ∧
 withAddr a fun (b o : Nat) =>
 ∃ (a : Option Addr),
 ∃ (n_5 : Nat),
 ∃ (m_2 : Nat),
 Heap.cell (Heap.setN h r 0 [int IntKind.i64 n, int IntKind.i64 n_1, int IntKind.i64 n_2]) b (o + Int.toNat n_4) = some (slice a n_5 m_2) ∧
 ∃ (n_6 : Int),
 Heap.cell (Heap.setN h r 0 [int IntKind.i64 n, int IntKind.i64 n_1, int IntKind.i64 n_2]) r 1 = some (int IntKind.i64 n_6) ∧
 0 ≤ n_6 ∧
 n_6 < (↑n_5 : Int) ∧
 withAddr a fun (b o : Nat) =>
 ∃ (n_7 : Int),
 Heap.cell (Heap.setN h r 0 [int IntKind.i64 n, int IntKind.i64 n_1, int IntKind.i64 n_2]) b (o + Int.toNat n_6) = some (int IntKind.i64 n_7) ∧
 ∃ (n_8 : Int),
 Heap.cell (Heap.setN h r 0 [int IntKind.i64 n, int IntKind.i64 n_1, int IntKind.i64 n_2]) r 2 = some (int IntKind.i64 n_8) ∧
 CallA Try.prog fn_ref01_Of [int IntKind.i64 n_7] (Heap.setN h r 0 [int IntKind.i64 n, int IntKind.i64 n_1, int IntKind.i64 n_2])
 fun (v : Value) (h_1 : Heap) =>
 ∃ (b : Bool),
 ∃ (a : Option Addr),
 ∃ (n_9 : Nat),
 ∃ (m_3 : Nat),
 v = agg #[Value.bool b, slice a n_9 m_3] ∧
 (Heap.le (Heap.setN h r 0 [int IntKind.i64 n, int IntKind.i64 n_1, int IntKind.i64 n_2]) h_1 ∨
 Keeps [r] (Heap.setN h r 0 [int IntKind.i64 n, int IntKind.i64 n_1, int IntKind.i64 n_2]) h_1) ∧
 CallA Try.prog fn_ref01_Of [int IntKind.i64 n_8] h_1 fun (v : Value) (h : Heap) =>
 ∃ (b_1 : Bool),
 ∃ (a_1 : Option Addr),
 ∃ (n : Nat),
 ∃ (m_4 : Nat),
 v = agg #[Value.bool b_1, slice a_1 n m_4] ∧
 CallA Try.prog fn_ref01_Add [agg #[Value.bool b, slice a n_9 m_3], agg #[Value.bool b_1, slice a_1 n m_4]] h
 fun (v : Value) (h : Heap) =>
 ∃ (b : Bool),
 ∃ (a : Option Addr),
 ∃ (n : Nat),
 ∃ (m_5 : Nat),
 v = agg #[Value.bool b, slice a n m_5] ∧
 CallA Try.prog fn_ref01_Fit [agg #[Value.bool b, slice a n m_5]] h fun (v : Value) (h : Heap) =>
 ∃ (n : Int),
 ∃ (n_10 : Int),
 v = tuple #[int IntKind.i64 n, int IntKind.i64 n_10] ∧
 Br (n_10 != 0) (Ret h K (int IntKind.i64 n_10))
 (withAddr m fun (b o : Nat) =>
 ∃ (a : Option Addr),
 ∃ (n_11 : Nat),
 ∃ (m_6 : Nat),
 Heap.cell h b o = some (slice a n_11 m_6) ∧
 ∃ (n_12 : Int),
 Heap.cell h r 0 = some (int IntKind.i64 n_12) ∧
 0 ≤ n_12 ∧
 n_12 < (↑n_11 : Int) ∧
 withAddr a fun (b o : Nat) =>
 ∃ (a : Option Addr),
 ∃ (n_13 : Nat),
 ∃ (m_7 : Nat),
 Heap.cell h b (o + Int.toNat n_12) = some (slice a n_13 m_7) ∧
 ∃ (n_14 : Int),
 Heap.cell h r 1 = some (int IntKind.i64 n_14) ∧
 0 ≤ n_14 ∧
 n_14 < (↑n_13 : Int) ∧
 withAddr a fun (b o : Nat) =>
 Heap.canSt h b (o + Int.toNat n_14) 1 ∧
 L_pref08_Ledger_Post_3 l batch batchn batchc m
 (IntKind.wrap IntKind.i64 (i + 1))
 (Heap.setN h b (o + Int.toNat n_14) [int IntKind.i64 n]) K))
 (withAddr m fun (b o : Nat) =>
 ∃ (a : Option Addr), ∃ (n : Nat), ∃ (m : Nat), Heap.cell h b o = some (slice a n m) ∧ withAddr l fun (b o : Nat) => Heap.canSt h b o 1 ∧ Ret (Heap.setN h b o [slice a n m]) K (int IntKind.i64 0))
theorem L_pref08_Ledger_Post_3r (l : Option Addr) (batch : Option Addr) (batchn : Nat) (batchc : Nat) (m : Option Addr) (i : Int) (h : Heap) (K : Value → Heap → Prop) (k : L_pref08_Ledger_Post_3T l batch batchn batchc m i h K) : L_pref08_Ledger_Post_3 l batch batchn batchc m i h K :=
 LoopAt.of_ev (cs := []) Try.func33 mixed (fun junk => by kernel_rfl) k
def F_pref08_Ledger_PostT (l : Option Addr) (batch : Option Addr) (batchn : Nat) (batchc : Nat) (h : Heap) (K : Value → Heap → Prop) : Prop :=
 withAddr l fun (b o : Nat) =>
 ∃ (a : Option Addr),
 ∃ (n : Nat),
 ∃ (m : Nat),
 Heap.cell h b (o + 1) = some (slice a n m) ∧
 0 ≤ (↑n : Int) ∧
 (↑n : Int) ≤ (↑n : Int) ∧
 (↑n : Int) ≤ 281474976710656 ∧
 32 * (↑n : Int) ≤ 281474976710656 ∧
 newB h (repL (Int.toNat (↑n : Int)) [Value.bool false, slice none 0 0]) 102 fun (r : Nat) (h : Heap) =>
 L_pref08_Ledger_Post_0 l batch batchn batchc (some { block := r, off := 0 }) (Int.toNat (↑n : Int)) (Int.toNat (↑n : Int)) 0 h K
theorem F_pref08_Ledger_Post (l : Option Addr) (batch : Option Addr) (batchn : Nat) (batchc : Nat) (h : Heap) (K : Value → Heap → Prop) (k : F_pref08_Ledger_PostT l batch batchn batchc h K) : CallA Try.prog fn_pref08_Ledger_Post [pointer l, slice batch batchn batchc] h K :=
 CallA.of_ev (cs := []) Try.func33 (by kernel_rfl) (fun _ _ => Try.call33 _ _) mixed (by kernel_rfl) (by kernel_rfl) k
def L_pref08_Ledger_In_1003 (l : Option Addr) (member : Int) (cur : Int) (amount : Int) (h : Heap) (K : Value → Heap → Prop) : Prop :=
 CutAt Try.prog Try.f32 32 (cutK Try.f32 3) (sp 78 [(0, pointer l), (1, int IntKind.i64 member), (2, int IntKind.i64 cur), (3, int IntKind.i64 amount)]) h K
def L_pref08_Ledger_In_1007 (l : Option Addr) (member : Int) (cur : Int) (n : Int) (m : Int) (h : Heap) (K : Value → Heap → Prop) : Prop :=
 CutAt Try.prog Try.f32 32 (cutK Try.f32 7) (sp 78 [(0, pointer l), (1, int IntKind.i64 member), (2, int IntKind.i64 cur), (9, int IntKind.i64 n), (11, int IntKind.i64 m)]) h K
def L_pref08_Ledger_In_1003T (l : Option Addr) (member : Int) (cur : Int) (amount : Int) (h : Heap) (K : Value → Heap → Prop) : Prop :=
 withAddr l fun (b o : Nat) =>
 ∃ (a : Option Addr),
 ∃ (n : Nat),
 ∃ (m : Nat),
 Heap.cell h b o = some (slice a n m) ∧
 0 ≤ member ∧
 member < (↑n : Int) ∧
 withAddr a fun (b o : Nat) =>
 ∃ (a : Option Addr),
 ∃ (n : Nat),
 ∃ (m : Nat),
 Heap.cell h b (o + Int.toNat member) = some (slice a n m) ∧
 0 ≤ cur ∧
 cur < (↑n : Int) ∧
 withAddr a fun (b o : Nat) =>
 ∃ (n : Int),
 Heap.cell h b (o + Int.toNat cur) = some (int IntKind.i64 n) ∧
 CallA Try.prog fn_ref01_Of [int IntKind.i64 n] h fun (v : Value) (h : Heap) =>
 ∃ (b : Bool),
 ∃ (a : Option Addr),
 ∃ (n : Nat),
 ∃ (m : Nat),
 v = agg #[Value.bool b, slice a n m] ∧
 CallA Try.prog fn_ref01_Of [int IntKind.i64 amount] h fun (v : Value) (h : Heap) =>
 ∃ (b_1 : Bool),
 ∃ (a_1 : Option Addr),
 ∃ (n_1 : Nat),
 ∃ (m_1 : Nat),
 v = agg #[Value.bool b_1, slice a_1 n_1 m_1] ∧
 CallA Try.prog fn_ref01_Add [agg #[Value.bool b, slice a n m], agg #[Value.bool b_1, slice a_1 n_1 m_1]] h fun (v : Value) (h : Heap) =>
 ∃ (b : Bool),
 ∃ (a : Option Addr),
 ∃ (n : Nat),
 ∃ (m : Nat),
 v = agg #[Value.bool b, slice a n m] ∧
 CallA Try.prog fn_ref01_Fit [agg #[Value.bool b, slice a n m]] h fun (v : Value) (h : Heap) =>
 ∃ (n : Int),
 ∃ (n_2 : Int),
 v = tuple #[int IntKind.i64 n, int IntKind.i64 n_2] ∧
 withAddr l fun (b o : Nat) =>
 ∃ (a : Option Addr),
 ∃ (n_3 : Nat),
 ∃ (m : Nat),
 Heap.cell h b (o + 1) = some (slice a n_3 m) ∧
 0 ≤ cur ∧
 cur < (↑n_3 : Int) ∧
 withAddr a fun (b o : Nat) =>
 ∃ (n_4 : Int),
 Heap.cell h b (o + Int.toNat cur) = some (int IntKind.i64 n_4) ∧
 CallA Try.prog fn_ref01_Of [int IntKind.i64 n_4] h fun (v : Value) (h : Heap) =>
 ∃ (b : Bool),
 ∃ (a : Option Addr),
 ∃ (n_5 : Nat),
 ∃ (m : Nat),
 v = agg #[Value.bool b, slice a n_5 m] ∧
 CallA Try.prog fn_ref01_Of [int IntKind.i64 amount] h fun (v : Value) (h : Heap) =>
 ∃ (b_2 : Bool),
 ∃ (a_2 : Option Addr),
 ∃ (n_6 : Nat),
 ∃ (m_2 : Nat),
 v = agg #[Value.bool b_2, slice a_2 n_6 m_2] ∧
 CallA Try.prog 64
 [agg #[Value.bool b, slice a n_5 m], agg #[Value.bool b_2, slice a_2 n_6 m_2]] h
 fun (v : Value) (h : Heap) =>
 ∃ (b : Bool),
 ∃ (a : Option Addr),
 ∃ (n_7 : Nat),
 ∃ (m : Nat),
 v = agg #[Value.bool b, slice a n_7 m] ∧
 CallA Try.prog fn_ref01_Fit [agg #[Value.bool b, slice a n_7 m]] h
 fun (v : Value) (h : Heap) =>
 ∃ (n_8 : Int),
 ∃ (n_9 : Int),
 v = tuple #[int IntKind.i64 n_8, int IntKind.i64 n_9] ∧
 Br (n_2 != 0) (Ret h K (int IntKind.i64 3))
 (Br (n_9 != 0) (Ret h K (int IntKind.i64 3))
 (L_pref08_Ledger_In_1007 l member cur n n_8 h K))
theorem L_pref08_Ledger_In_1003r (l : Option Addr) (member : Int) (cur : Int) (amount : Int) (h : Heap) (K : Value → Heap → Prop) (k : L_pref08_Ledger_In_1003T l member cur amount h K) : L_pref08_Ledger_In_1003 l member cur amount h K :=
 CutAt.of_ev (cs := [3, 7]) Try.func32 mixed (fun junk => by kernel_rfl) k
def L_pref08_Ledger_In_1007T (l : Option Addr) (member : Int) (cur : Int) (n : Int) (m : Int) (h : Heap) (K : Value → Heap → Prop) : Prop :=
 withAddr l fun (b o : Nat) =>
 ∃ (a : Option Addr),
 ∃ (n_1 : Nat),
 ∃ (m_1 : Nat),
 Heap.cell h b o = some (slice a n_1 m_1) ∧
 0 ≤ member ∧
 member < (↑n_1 : Int) ∧
 withAddr a fun (b o : Nat) =>
 ∃ (a : Option Addr),
 ∃ (n_2 : Nat),
 ∃ (m_2 : Nat),
 Heap.cell h b (o + Int.toNat member) = some (slice a n_2 m_2) ∧
 0 ≤ cur ∧
 cur < (↑n_2 : Int) ∧
 withAddr a fun (b o : Nat) =>
 Heap.canSt h b (o + Int.toNat cur) 1 ∧
 withAddr l fun (b_1 o_1 : Nat) =>
 ∃ (a : Option Addr),
 ∃ (n_3 : Nat),
 ∃ (m_3 : Nat),
 Heap.cell (Heap.setN h b (o + Int.toNat cur) [int IntKind.i64 n]) b_1 (o_1 + 1) = some (slice a n_3 m_3) ∧
 0 ≤ cur ∧
 cur < (↑n_3 : Int) ∧
 withAddr a fun (b_2 o_2 : Nat) =>
 Heap.canSt (Heap.setN h b (o + Int.toNat cur) [int IntKind.i64 n]) b_2 (o_2 + Int.toNat cur) 1 ∧
 Ret (Heap.setN (Heap.setN h b (o + Int.toNat cur) [int IntKind.i64 n]) b_2 (o_2 + Int.toNat cur) [int IntKind.i64 m]) K (int IntKind.i64 0)
theorem L_pref08_Ledger_In_1007r (l : Option Addr) (member : Int) (cur : Int) (n : Int) (m : Int) (h : Heap) (K : Value → Heap → Prop) (k : L_pref08_Ledger_In_1007T l member cur n m h K) : L_pref08_Ledger_In_1007 l member cur n m h K :=
 CutAt.of_ev (cs := [3, 7]) Try.func32 mixed (fun junk => by kernel_rfl) k
def F_pref08_Ledger_InT (l : Option Addr) (member : Int) (cur : Int) (amount : Int) (h : Heap) (K : Value → Heap → Prop) : Prop :=
 CallA Try.prog fn_pref08_Ledger_Has [pointer l, int IntKind.i64 member, int IntKind.i64 cur] h fun (v : Value) (h : Heap) =>
 ∃ (b : Bool), v = Value.bool b ∧ Br (!b) (Ret h K (int IntKind.i64 1)) (Br (decide (amount < 1)) (Ret h K (int IntKind.i64 1)) (L_pref08_Ledger_In_1003 l member cur amount h K))
theorem F_pref08_Ledger_In (l : Option Addr) (member : Int) (cur : Int) (amount : Int) (h : Heap) (K : Value → Heap → Prop) (k : F_pref08_Ledger_InT l member cur amount h K) : CallA Try.prog fn_pref08_Ledger_In [pointer l, int IntKind.i64 member, int IntKind.i64 cur, int IntKind.i64 amount] h K :=
 CallA.of_ev (cs := [3, 7]) Try.func32 (by kernel_rfl) (fun _ _ => Try.call32 _ _) mixed (by kernel_rfl) (by kernel_rfl) k
end Go.Proofs.Ytghdadniddoboaa
