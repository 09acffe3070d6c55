import Derived.Test.YtghdadniddoboaaGreatM03
namespace Go.Proofs.YtghdadniddoboaaGreat
open Go Go.Sy Go.Value
set_option linter.unusedVariables false
set_option maxRecDepth 100000
def L_worth_New_0 (w : Nat) (t34 : Int) (t35 : Int) (h : Heap) (K : Value → Heap → Prop) : Prop :=
 LoopAt Tryz.prog Tryz.f31 31 (loopK Tryz.f31 0) (sp 43 [(9, pointer (some { block := w, off := 0 })), (34, int IntKind.i64 t34), (35, int IntKind.i64 t35)]) h K
def L_worth_New_0T (w : Nat) (t34 : Int) (t35 : Int) (h : Heap) (K : Value → Heap → Prop) : Prop :=
 Br (decide (t35 < t34)) (CallA Tryz.prog fn_pworth_Worths_Moved [pointer (some { block := w, off := 0 }), int IntKind.i64 t35] h fun (v : Value) (h : Heap) => v = tuple #[] ∧ L_worth_New_0 w t34 (IntKind.wrap IntKind.i64 (t35 + 1)) h K)
 (Ret h K (tuple #[pointer (some { block := w, off := 0 }), int IntKind.i64 0]))
theorem L_worth_New_0r (w : Nat) (t34 : Int) (t35 : Int) (h : Heap) (K : Value → Heap → Prop) (k : L_worth_New_0T w t34 t35 h K) : L_worth_New_0 w t34 t35 h K :=
 LoopAt.of_ev (cs := []) Tryz.func31 mixed (fun junk => by kernel_rfl) k
def F_worth_NewT (t : Option Addr) (tn : Nat) (tc : Nat) (l : Option Addr) (h : Heap) (K : Value → Heap → Prop) : Prop :=
 CallA Tryz.prog fn_table_Check [slice t tn tc] h fun (v : Value) (h : Heap) =>
 ∃ (n : Int),
 v = int IntKind.i64 n ∧
 Br (n != 0) (Ret h K (tuple #[pointer none, int IntKind.i64 n]))
 (Br (Option.isNone l) (Ret h K (tuple #[pointer none, int IntKind.i64 1]))
 (CallA Tryz.prog fn_pledger_Ledger_Size [pointer l] h fun (v : Value) (h : Heap) =>
 ∃ (n : Int),
 ∃ (n_1 : Int),
 v = tuple #[int IntKind.i64 n, int IntKind.i64 n_1] ∧
 Br (n_1 != (↑tn : Int)) (Ret h K (tuple #[pointer none, int IntKind.i64 1]))
 (0 ≤ n ∧
 n ≤ n ∧
 n ≤ 281474976710656 ∧
 104 * n ≤ 281474976710656 ∧
 CallA Tryz.prog fn_slices_Clone_api_Currency_api_Currency [slice t tn tc] h fun (v : Value) (h : Heap) =>
 ∃ (a : Option Addr),
 ∃ (n_2 : Nat),
 ∃ (m : Nat),
 v = slice a n_2 m ∧
 0 ≤ n ∧
 n ≤ n ∧
 n ≤ 281474976710656 ∧
 104 * n ≤ 281474976710656 ∧
 newB h (repL (Int.toNat n) [slice none 0 0, slice none 0 0, slice none 0 0, int IntKind.i64 0, int IntKind.i64 0, int IntKind.i64 0, int IntKind.i64 0]) 139
 fun (r : Nat) (h : Heap) =>
 newB h [slice a n_2 m, pointer l, slice (some { block := r, off := 0 }) (Int.toNat n) (Int.toNat n)] 110 fun (r : Nat) (h : Heap) => L_worth_New_0 r n 0 h K)))
theorem F_worth_New (t : Option Addr) (tn : Nat) (tc : Nat) (l : Option Addr) (h : Heap) (K : Value → Heap → Prop) (k : F_worth_NewT t tn tc l h K) : CallA Tryz.prog fn_worth_New [slice t tn tc, pointer l] h K :=
 CallA.of_ev (cs := []) Tryz.func31 (by kernel_rfl) (fun _ _ => Tryz.call31 _ _) mixed (by kernel_rfl) (by kernel_rfl) k
def L_pworth_Worths_Moved_0 (w : Option Addr) (member : Int) (balance : Option Addr) (balancen : Nat) (balancec : Nat) (t14 : Int) (t15 : Int) (h : Heap) (K : Value → Heap → Prop) : Prop :=
 LoopAt Tryz.prog Tryz.f64 64 (loopK Tryz.f64 0) (sp 38 [(0, pointer w), (1, int IntKind.i64 member), (4, slice balance balancen balancec), (14, int IntKind.i64 t14), (15, int IntKind.i64 t15)]) h K
def L_pworth_Worths_Moved_0T (w : Option Addr) (member : Int) (balance : Option Addr) (balancen : Nat) (balancec : Nat) (t14 : Int) (t15 : Int) (h : Heap) (K : Value → Heap → Prop) : Prop :=
 Br (decide (t15 < t14))
 (withAddr w fun (b o : Nat) =>
 ∃ (a : Option Addr),
 Heap.cell h b (o + 1) = some (pointer a) ∧
 CallA Tryz.prog fn_pledger_Ledger_Get [pointer a, int IntKind.i64 member, int IntKind.i64 t15] h fun (v : Value) (h : Heap) =>
 ∃ (n : Int),
 v = int IntKind.i64 n ∧
 newB h [int IntKind.i64 n] 2 fun (r : Nat) (h : Heap) =>
 AppA [int IntKind.i64 0] 2 h balance balancen balancec 1 (some { block := r, off := 0 }) fun (ap : Option Addr) (cp : Nat) (h : Heap) =>
 L_pworth_Worths_Moved_0 w member ap (balancen + 1) cp t14 (IntKind.wrap IntKind.i64 (t15 + 1)) h K)
 (withAddr w fun (b o : Nat) =>
 ∃ (a : Option Addr),
 ∃ (n : Nat),
 ∃ (m : Nat),
 Heap.cell h b (o + 2) = some (slice a n m) ∧
 CallA Tryz.prog fn_pworth_Worths_account [pointer w, slice balance balancen balancec] h fun (v : Value) (h_1 : Heap) =>
 ∃ (a_1 : Option Addr),
 ∃ (n_1 : Nat),
 ∃ (m : Nat),
 ∃ (a_2 : Option Addr),
 ∃ (n_2 : Nat),
 ∃ (m_1 : Nat),
 ∃ (a_3 : Option Addr),
 ∃ (n_3 : Nat),
 ∃ (m_2 : Nat),
 ∃ (n_4 : Int),
 ∃ (n_5 : Int),
 ∃ (n_6 : Int),
 ∃ (n_7 : Int),
 v = agg #[slice a_1 n_1 m, slice a_2 n_2 m_1, slice a_3 n_3 m_2, int IntKind.i64 n_4, int IntKind.i64 n_5, int IntKind.i64 n_6, int IntKind.i64 n_7] ∧
 (Heap.le h h_1 ∨ Keeps [b] h h_1) ∧
 0 ≤ member ∧
 member < (↑n : Int) ∧
 withAddr a fun (b o : Nat) =>
 Heap.canSt h_1 b (o + Int.toNat member * 7) 7 ∧
 Ret
 (Heap.setN h_1 b (o + Int.toNat member * 7)
 [slice a_1 n_1 m, slice a_2 n_2 m_1, slice a_3 n_3 m_2, int IntKind.i64 n_4, int IntKind.i64 n_5, int IntKind.i64 n_6, int IntKind.i64 n_7])
 K (tuple #[]))
theorem L_pworth_Worths_Moved_0r (w : Option Addr) (member : Int) (balance : Option Addr) (balancen : Nat) (balancec : Nat) (t14 : Int) (t15 : Int) (h : Heap) (K : Value → Heap → Prop) (k : L_pworth_Worths_Moved_0T w member balance balancen balancec t14 t15 h K) : L_pworth_Worths_Moved_0 w member balance balancen balancec t14 t15 h K :=
 LoopAt.of_ev (cs := []) Tryz.func64 mixed (fun junk => by kernel_rfl) k
def F_pworth_Worths_MovedT (w : Option Addr) (member : Int) (h : Heap) (K : Value → Heap → Prop) : Prop :=
 CallA Tryz.prog fn_pworth_Worths_has [pointer w, int IntKind.i64 member] h fun (v : Value) (h : Heap) =>
 ∃ (b : Bool),
 v = Value.bool b ∧ Br (!b) (Ret h K (tuple #[])) (withAddr w fun (b o : Nat) => ∃ (a : Option Addr), ∃ (n : Nat), ∃ (m : Nat), Heap.cell h b o = some (slice a n m) ∧ L_pworth_Worths_Moved_0 w member none 0 0 (↑n : Int) 0 h K)
theorem F_pworth_Worths_Moved (w : Option Addr) (member : Int) (h : Heap) (K : Value → Heap → Prop) (k : F_pworth_Worths_MovedT w member h K) : CallA Tryz.prog fn_pworth_Worths_Moved [pointer w, int IntKind.i64 member] h K :=
 CallA.of_ev (cs := []) Tryz.func64 (by kernel_rfl) (fun _ _ => Tryz.call64 _ _) mixed (by kernel_rfl) (by kernel_rfl) k
def L_pworth_Worths_turn_0 (w : Option Addr) (cur : Int) (t16 : Int) (t17 : Int) (h : Heap) (K : Value → Heap → Prop) : Prop :=
 LoopAt Tryz.prog Tryz.f100 100 (loopK Tryz.f100 0) (sp 68 [(0, pointer w), (2, int IntKind.i64 cur), (16, int IntKind.i64 t16), (17, int IntKind.i64 t17)]) h K
def L_pworth_Worths_turn_0T (w : Option Addr) (cur : Int) (t16 : Int) (t17 : Int) (h : Heap) (K : Value → Heap → Prop) : Prop :=
 Br (decide (t17 < t16))
 (withAddr w fun (b o : Nat) =>
 ∃ (a : Option Addr),
 ∃ (n : Nat),
 ∃ (m : Nat),
 Heap.cell h b (o + 2) = some (slice a n m) ∧
 0 ≤ t17 ∧
 t17 < (↑n : Int) ∧
 withAddr a fun (b o : Nat) =>
 ∃ (a : Option Addr),
 ∃ (n : Nat),
 ∃ (m : Nat),
 Heap.cell h b (o + Int.toNat t17 * 7 + 1) = some (slice a n m) ∧
 ∃ (a_1 : Option Addr),
 ∃ (n_1 : Nat),
 ∃ (m : Nat),
 Heap.cell h b (o + Int.toNat t17 * 7 + 2) = some (slice a_1 n_1 m) ∧
 ∃ (a_2 : Option Addr),
 ∃ (n_2 : Nat),
 ∃ (m : Nat),
 Heap.cell h b (o + Int.toNat t17 * 7) = some (slice a_2 n_2 m) ∧
 0 ≤ cur ∧
 cur < (↑n_2 : Int) ∧
 withAddr a_2 fun (b_1 o_1 : Nat) =>
 ∃ (n_3 : Int),
 Heap.cell h b_1 (o_1 + Int.toNat cur) = some (int IntKind.i64 n_3) ∧
 CallA Tryz.prog fn_pworth_Worths_one [pointer w, int IntKind.i64 cur, int IntKind.i64 n_3] h fun (v : Value) (h_1 : Heap) =>
 ∃ (n_4 : Int),
 ∃ (n_5 : Int),
 ∃ (n_6 : Int),
 ∃ (n_7 : Int),
 v = tuple #[agg #[int IntKind.i64 n_4, int IntKind.i64 n_5], agg #[int IntKind.i64 n_6, int IntKind.i64 n_7]] ∧
 (Heap.le h h_1 ∨ Keeps [b, b] h h_1) ∧
 0 ≤ cur ∧
 cur < (↑n : Int) ∧
 withAddr a fun (b_2 o_2 : Nat) =>
 Heap.canSt h_1 b_2 (o_2 + Int.toNat cur * 2) 2 ∧
 0 ≤ cur ∧
 cur < (↑n_1 : Int) ∧
 withAddr a_1 fun (b_3 o_3 : Nat) =>
 Heap.canSt (Heap.setN h_1 b_2 (o_2 + Int.toNat cur * 2) [int IntKind.i64 n_4, int IntKind.i64 n_5]) b_3 (o_3 + Int.toNat cur * 2) 2 ∧
 ∃ (a : Option Addr),
 ∃ (n : Nat),
 ∃ (m : Nat),
 Heap.cell
 (Heap.setN (Heap.setN h_1 b_2 (o_2 + Int.toNat cur * 2) [int IntKind.i64 n_4, int IntKind.i64 n_5]) b_3
 (o_3 + Int.toNat cur * 2) [int IntKind.i64 n_6, int IntKind.i64 n_7])
 b (o + Int.toNat t17 * 7 + 1) =
 some (slice a n m) ∧
 ∃ (a_3 : Option Addr),
 ∃ (n_8 : Nat),
 ∃ (m_1 : Nat),
 Heap.cell
 (Heap.setN (Heap.setN h_1 b_2 (o_2 + Int.toNat cur * 2) [int IntKind.i64 n_4, int IntKind.i64 n_5]) b_3
 (o_3 + Int.toNat cur * 2) [int IntKind.i64 n_6, int IntKind.i64 n_7])
 b (o + Int.toNat t17 * 7 + 2) =
 some (slice a_3 n_8 m_1) ∧
 CallA Tryz.prog fn_worth_chain [slice a n m]
 (Heap.setN (Heap.setN h_1 b_2 (o_2 + Int.toNat cur * 2) [int IntKind.i64 n_4, int IntKind.i64 n_5]) b_3
 (o_3 + Int.toNat cur * 2) [int IntKind.i64 n_6, int IntKind.i64 n_7])
 fun (v : Value) (h : Heap) =>
 ∃ (n : Int),
 ∃ (n_9 : Int),
 v = agg #[int IntKind.i64 n, int IntKind.i64 n_9] ∧
 (Heap.le
 (Heap.setN (Heap.setN h_1 b_2 (o_2 + Int.toNat cur * 2) [int IntKind.i64 n_4, int IntKind.i64 n_5]) b_3
 (o_3 + Int.toNat cur * 2) [int IntKind.i64 n_6, int IntKind.i64 n_7])
 h ∨
 Keeps [b]
 (Heap.setN (Heap.setN h_1 b_2 (o_2 + Int.toNat cur * 2) [int IntKind.i64 n_4, int IntKind.i64 n_5]) b_3
 (o_3 + Int.toNat cur * 2) [int IntKind.i64 n_6, int IntKind.i64 n_7])
 h) ∧
 CallA Tryz.prog fn_worth_chain [slice a_3 n_8 m_1] h fun (v : Value) (h : Heap) =>
 ∃ (n_10 : Int),
 ∃ (n_11 : Int),
 v = agg #[int IntKind.i64 n_10, int IntKind.i64 n_11] ∧
 Heap.canSt h b (o + Int.toNat t17 * 7 + 3) 2 ∧
 Heap.canSt (Heap.setN h b (o + Int.toNat t17 * 7 + 3) [int IntKind.i64 n, int IntKind.i64 n_9]) b
 (o + Int.toNat t17 * 7 + 5) 2 ∧
 L_pworth_Worths_turn_0 w cur t16 (IntKind.wrap IntKind.i64 (t17 + 1))
 (Heap.setN (Heap.setN h b (o + Int.toNat t17 * 7 + 3) [int IntKind.i64 n, int IntKind.i64 n_9]) b
 (o + Int.toNat t17 * 7 + 5) [int IntKind.i64 n_10, int IntKind.i64 n_11])
 K)
 (Ret h K (tuple #[]))
theorem L_pworth_Worths_turn_0r (w : Option Addr) (cur : Int) (t16 : Int) (t17 : Int) (h : Heap) (K : Value → Heap → Prop) (k : L_pworth_Worths_turn_0T w cur t16 t17 h K) : L_pworth_Worths_turn_0 w cur t16 t17 h K :=
 LoopAt.of_ev (cs := []) Tryz.func100 mixed (fun junk => by kernel_rfl) k
def F_pworth_Worths_turnT (w : Option Addr) (t : Option Addr) (tn : Nat) (tc : Nat) (cur : Int) (h : Heap) (K : Value → Heap → Prop) : Prop :=
 withAddr w fun (b o : Nat) =>
 Heap.canSt h b o 1 ∧
 withAddr w fun (b_1 o_1 : Nat) =>
 ∃ (a : Option Addr), ∃ (n : Nat), ∃ (m : Nat), Heap.cell (Heap.setN h b o [slice t tn tc]) b_1 (o_1 + 2) = some (slice a n m) ∧ L_pworth_Worths_turn_0 w cur (↑n : Int) 0 (Heap.setN h b o [slice t tn tc]) K
theorem F_pworth_Worths_turn (w : Option Addr) (t : Option Addr) (tn : Nat) (tc : Nat) (cur : Int) (h : Heap) (K : Value → Heap → Prop) (k : F_pworth_Worths_turnT w t tn tc cur h K) : CallA Tryz.prog fn_pworth_Worths_turn [pointer w, slice t tn tc, int IntKind.i64 cur] h K :=
 CallA.of_ev (cs := []) Tryz.func100 (by kernel_rfl) (fun _ _ => Tryz.call100 _ _) mixed (by kernel_rfl) (by kernel_rfl) k
def F_pworth_Worths_RateT (w : Option Addr) (cur : Int) (rate : Int) (h : Heap) (K : Value → Heap → Prop) : Prop :=
 withAddr w fun (b o : Nat) =>
 ∃ (a : Option Addr),
 ∃ (n : Nat),
 ∃ (m : Nat),
 Heap.cell h b o = some (slice a n m) ∧
 CallA Tryz.prog fn_table_WithRate [slice a n m, int IntKind.i64 cur, int IntKind.i64 rate] h fun (v : Value) (h : Heap) =>
 ∃ (a : Option Addr),
 ∃ (n : Nat),
 ∃ (m : Nat),
 ∃ (n_1 : Int),
 v = tuple #[slice a n m, int IntKind.i64 n_1] ∧
 Br (n_1 == 0) (CallA Tryz.prog fn_pworth_Worths_turn [pointer w, slice a n m, int IntKind.i64 cur] h fun (v : Value) (h : Heap) => v = tuple #[] ∧ Ret h K (int IntKind.i64 n_1)) (Ret h K (int IntKind.i64 n_1))
theorem F_pworth_Worths_Rate (w : Option Addr) (cur : Int) (rate : Int) (h : Heap) (K : Value → Heap → Prop) (k : F_pworth_Worths_RateT w cur rate h K) : CallA Tryz.prog fn_pworth_Worths_Rate [pointer w, int IntKind.i64 cur, int IntKind.i64 rate] h K :=
 CallA.of_ev (cs := []) Tryz.func70 (by kernel_rfl) (fun _ _ => Tryz.call70 _ _) mixed (by kernel_rfl) (by kernel_rfl) k
def F_pworth_Worths_CutT (w : Option Addr) (cur : Int) (cut : Int) (h : Heap) (K : Value → Heap → Prop) : Prop :=
 withAddr w fun (b o : Nat) =>
 ∃ (a : Option Addr),
 ∃ (n : Nat),
 ∃ (m : Nat),
 Heap.cell h b o = some (slice a n m) ∧
 CallA Tryz.prog fn_table_WithCut [slice a n m, int IntKind.i64 cur, int IntKind.i64 cut] h fun (v : Value) (h : Heap) =>
 ∃ (a : Option Addr),
 ∃ (n : Nat),
 ∃ (m : Nat),
 ∃ (n_1 : Int),
 v = tuple #[slice a n m, int IntKind.i64 n_1] ∧
 Br (n_1 == 0) (CallA Tryz.prog fn_pworth_Worths_turn [pointer w, slice a n m, int IntKind.i64 cur] h fun (v : Value) (h : Heap) => v = tuple #[] ∧ Ret h K (int IntKind.i64 n_1)) (Ret h K (int IntKind.i64 n_1))
theorem F_pworth_Worths_Cut (w : Option Addr) (cur : Int) (cut : Int) (h : Heap) (K : Value → Heap → Prop) (k : F_pworth_Worths_CutT w cur cut h K) : CallA Tryz.prog fn_pworth_Worths_Cut [pointer w, int IntKind.i64 cur, int IntKind.i64 cut] h K :=
 CallA.of_ev (cs := []) Tryz.func78 (by kernel_rfl) (fun _ _ => Tryz.call78 _ _) mixed (by kernel_rfl) (by kernel_rfl) k
end Go.Proofs.YtghdadniddoboaaGreat

namespace Go.Proofs.YtghdadniddoboaaGreat
open Go Go.Sy Go.Value
set_option linter.unusedVariables false
set_option maxRecDepth 100000
def L_pworth_Worths_If_0 (member : Int) (w : Nat) (x : Nat) (t38 : Option Addr) (t38n : Nat) (t38c : Nat) (t39 : Int) (t40 : Int) (h : Heap) (K : Value → Heap → Prop) : Prop :=
 LoopAt Tryz.prog Tryz.f62 62 (loopK Tryz.f62 0) (sp 102 [(1, int IntKind.i64 member), (3, pointer (some { block := w, off := 0 })), (10, pointer (some { block := x, off := 0 })), (38, slice t38 t38n t38c), (39, int IntKind.i64 t39), (40, int IntKind.i64 t40)]) h K
def L_pworth_Worths_If_0T (member : Int) (w : Nat) (x : Nat) (t38 : Option Addr) (t38n : Nat) (t38c : Nat) (t39 : Int) (t40 : Int) (h : Heap) (K : Value → Heap → Prop) : Prop :=
 Br (decide (t40 < t39))
 (0 ≤ t40 ∧
 t40 < (↑t38n : Int) ∧
 withAddr t38 fun (b o : Nat) =>
 ∃ (n : Int),
 Heap.cell h b (o + Int.toNat t40 * 3) = some (int IntKind.i64 n) ∧
 ∃ (n_1 : Int),
 Heap.cell h b (o + Int.toNat t40 * 3 + 1) = some (int IntKind.i64 n_1) ∧
 ∃ (n_2 : Int),
 Heap.cell h b (o + Int.toNat t40 * 3 + 2) = some (int IntKind.i64 n_2) ∧
 newB h [int IntKind.i64 0, int IntKind.i64 0, int IntKind.i64 0] 65 fun (r : Nat) (h : Heap) =>
 Heap.canSt h r 0 3 ∧
 ∃ (n_3 : Int),
 Heap.cell (Heap.setN h r 0 [int IntKind.i64 n, int IntKind.i64 n_1, int IntKind.i64 n_2]) r 0 = some (int IntKind.i64 n_3) ∧
 Br (n_3 != member) (L_pworth_Worths_If_0 member w x t38 t38n t38c t39 (IntKind.wrap IntKind.i64 (t40 + 1)) (Heap.setN h r 0 [int IntKind.i64 n, int IntKind.i64 n_1, int IntKind.i64 n_2]) K)
 (∃ (a : Option Addr),
 ∃ (n_4 : Nat),
 ∃ (m : Nat),
 Heap.cell (Heap.setN h r 0 [int IntKind.i64 n, int IntKind.i64 n_1, int IntKind.i64 n_2]) x 7 = some (slice a n_4 m) ∧
 ∃ (n_5 : Int),
 Heap.cell (Heap.setN h r 0 [int IntKind.i64 n, int IntKind.i64 n_1, int IntKind.i64 n_2]) r 1 = some (int IntKind.i64 n_5) ∧
 0 ≤ n_5 ∧
 n_5 < (↑n_4 : Int) ∧
 withAddr a fun (b o : Nat) =>
 ∃ (n_6 : Int),
 Heap.cell (Heap.setN h r 0 [int IntKind.i64 n, int IntKind.i64 n_1, int IntKind.i64 n_2]) b (o + Int.toNat n_5) = some (int IntKind.i64 n_6) ∧
 ∃ (n_7 : Int),
 Heap.cell (Heap.setN h r 0 [int IntKind.i64 n, int IntKind.i64 n_1, int IntKind.i64 n_2]) r 2 = some (int IntKind.i64 n_7) ∧
 CallA Tryz.prog fn_money_Add [int IntKind.i64 n_6, int IntKind.i64 n_7] (Heap.setN h r 0 [int IntKind.i64 n, int IntKind.i64 n_1, int IntKind.i64 n_2])
 fun (v : Value) (h : Heap) =>
 ∃ (n : Int),
 ∃ (n_8 : Int),
 v = tuple #[int IntKind.i64 n, int IntKind.i64 n_8] ∧
 Br (n_8 != 0) (Ret h K (tuple #[int IntKind.i64 0, int IntKind.i64 0, int IntKind.i64 n_8]))
 (∃ (a : Option Addr),
 ∃ (n_9 : Nat),
 ∃ (m : Nat),
 Heap.cell h x 7 = some (slice a n_9 m) ∧
 ∃ (n_10 : Int),
 Heap.cell h r 1 = some (int IntKind.i64 n_10) ∧
 0 ≤ n_10 ∧
 n_10 < (↑n_9 : Int) ∧
 withAddr a fun (b o : Nat) =>
 Heap.canSt h b (o + Int.toNat n_10) 1 ∧
 L_pworth_Worths_If_0 member w x t38 t38n t38c t39 (IntKind.wrap IntKind.i64 (t40 + 1)) (Heap.setN h b (o + Int.toNat n_10) [int IntKind.i64 n]) K)))
 (∃ (a : Option Addr),
 ∃ (n : Nat),
 ∃ (m : Nat),
 Heap.cell h x 7 = some (slice a n m) ∧
 ∃ (a_1 : Option Addr),
 ∃ (n_1 : Nat),
 ∃ (m_1 : Nat),
 Heap.cell h x 0 = some (slice a_1 n_1 m_1) ∧
 CallA Tryz.prog fn_slices_Equal_int64_int64 [slice a n m, slice a_1 n_1 m_1] h fun (v : Value) (h : Heap) =>
 ∃ (b : Bool),
 v = Value.bool b ∧
 Br (!b)
 (∃ (a : Option Addr),
 Heap.cell h w 0 = some (pointer a) ∧
 ∃ (a_2 : Option Addr),
 ∃ (n : Nat),
 ∃ (m : Nat),
 Heap.cell h x 7 = some (slice a_2 n m) ∧
 CallA Tryz.prog fn_pworth_Worths_account [pointer a, slice a_2 n m] h fun (v : Value) (h : Heap) =>
 ∃ (a : Option Addr),
 ∃ (n : Nat),
 ∃ (m : Nat),
 ∃ (a_3 : Option Addr),
 ∃ (n_2 : Nat),
 ∃ (m_2 : Nat),
 ∃ (a_4 : Option Addr),
 ∃ (n_3 : Nat),
 ∃ (m_3 : Nat),
 ∃ (n_4 : Int),
 ∃ (n_5 : Int),
 ∃ (n_6 : Int),
 ∃ (n_7 : Int),
 v = agg #[slice a n m, slice a_3 n_2 m_2, slice a_4 n_3 m_3, int IntKind.i64 n_4, int IntKind.i64 n_5, int IntKind.i64 n_6, int IntKind.i64 n_7] ∧
 Heap.canSt h x 0 7 ∧
 ∃ (n_8 : Int),
 Heap.cell
 (Heap.setN h x 0
 [slice a n m, slice a_3 n_2 m_2, slice a_4 n_3 m_3, int IntKind.i64 n_4, int IntKind.i64 n_5, int IntKind.i64 n_6, int IntKind.i64 n_7])
 x 4 =
 some (int IntKind.i64 n_8) ∧
 Br (n_8 != 0)
 (Ret
 (Heap.setN h x 0
 [slice a n m, slice a_3 n_2 m_2, slice a_4 n_3 m_3, int IntKind.i64 n_4, int IntKind.i64 n_5, int IntKind.i64 n_6, int IntKind.i64 n_7])
 K (tuple #[int IntKind.i64 0, int IntKind.i64 0, int IntKind.i64 3]))
 (∃ (n_9 : Int),
 Heap.cell
 (Heap.setN h x 0
 [slice a n m, slice a_3 n_2 m_2, slice a_4 n_3 m_3, int IntKind.i64 n_4, int IntKind.i64 n_5, int IntKind.i64 n_6,
 int IntKind.i64 n_7])
 x 6 =
 some (int IntKind.i64 n_9) ∧
 Br (n_9 != 0)
 (Ret
 (Heap.setN h x 0
 [slice a n m, slice a_3 n_2 m_2, slice a_4 n_3 m_3, int IntKind.i64 n_4, int IntKind.i64 n_5, int IntKind.i64 n_6,
 int IntKind.i64 n_7])
 K (tuple #[int IntKind.i64 0, int IntKind.i64 0, int IntKind.i64 3]))
 (∃ (n_10 : Int),
 Heap.cell
 (Heap.setN h x 0
 [slice a n m, slice a_3 n_2 m_2, slice a_4 n_3 m_3, int IntKind.i64 n_4, int IntKind.i64 n_5, int IntKind.i64 n_6,
 int IntKind.i64 n_7])
 x 3 =
 some (int IntKind.i64 n_10) ∧
 ∃ (n_11 : Int),
 Heap.cell
 (Heap.setN h x 0
 [slice a n m, slice a_3 n_2 m_2, slice a_4 n_3 m_3, int IntKind.i64 n_4, int IntKind.i64 n_5, int IntKind.i64 n_6,
 int IntKind.i64 n_7])
 x 5 =
 some (int IntKind.i64 n_11) ∧
 Ret
 (Heap.setN h x 0
 [slice a n m, slice a_3 n_2 m_2, slice a_4 n_3 m_3, int IntKind.i64 n_4, int IntKind.i64 n_5, int IntKind.i64 n_6,
 int IntKind.i64 n_7])
 K (tuple #[int IntKind.i64 n_10, int IntKind.i64 n_11, int IntKind.i64 0]))))
 (∃ (n : Int),
 Heap.cell h x 4 = some (int IntKind.i64 n) ∧
 Br (n != 0) (Ret h K (tuple #[int IntKind.i64 0, int IntKind.i64 0, int IntKind.i64 3]))
 (∃ (n : Int),
 Heap.cell h x 6 = some (int IntKind.i64 n) ∧
 Br (n != 0) (Ret h K (tuple #[int IntKind.i64 0, int IntKind.i64 0, int IntKind.i64 3]))
 (∃ (n : Int),
 Heap.cell h x 3 = some (int IntKind.i64 n) ∧
 ∃ (n_2 : Int), Heap.cell h x 5 = some (int IntKind.i64 n_2) ∧ Ret h K (tuple #[int IntKind.i64 n, int IntKind.i64 n_2, int IntKind.i64 0])))))
theorem L_pworth_Worths_If_0r (member : Int) (w : Nat) (x : Nat) (t38 : Option Addr) (t38n : Nat) (t38c : Nat) (t39 : Int) (t40 : Int) (h : Heap) (K : Value → Heap → Prop) (k : L_pworth_Worths_If_0T member w x t38 t38n t38c t39 t40 h K) : L_pworth_Worths_If_0 member w x t38 t38n t38c t39 t40 h K :=
 LoopAt.of_ev (cs := []) Tryz.func62 mixed (fun junk => by kernel_rfl) k
def F_pworth_Worths_IfT (w : Option Addr) (member : Int) (batch : Option Addr) (batchn : Nat) (batchc : Nat) (h : Heap) (K : Value → Heap → Prop) : Prop :=
 newB h [pointer w] 51 fun (r : Nat) (h : Heap) =>
 ∃ (a : Option Addr),
 Heap.cell h r 0 = some (pointer a) ∧
 CallA Tryz.prog fn_pworth_Worths_has [pointer a, int IntKind.i64 member] h fun (v : Value) (h : Heap) =>
 ∃ (b : Bool),
 v = Value.bool b ∧
 Br (!b) (Ret h K (tuple #[int IntKind.i64 0, int IntKind.i64 0, int IntKind.i64 1]))
 (CallA Tryz.prog fn_slices_ContainsFunc_api_Posting_api_Posting [slice batch batchn batchc, func (Fn.func fn_pworth_Worths_If_1) #[] #[pointer (some { block := r, off := 0 })]] h fun (v : Value) (h : Heap) =>
 ∃ (b : Bool),
 v = Value.bool b ∧
 Br b (Ret h K (tuple #[int IntKind.i64 0, int IntKind.i64 0, int IntKind.i64 1]))
 (∃ (a : Option Addr),
 Heap.cell h r 0 = some (pointer a) ∧
 withAddr a fun (b o : Nat) =>
 ∃ (a : Option Addr),
 ∃ (n : Nat),
 ∃ (m : Nat),
 Heap.cell h b (o + 2) = some (slice a n m) ∧
 0 ≤ member ∧
 member < (↑n : Int) ∧
 withAddr a fun (b o : Nat) =>
 ∃ (a : Option Addr),
 ∃ (n : Nat),
 ∃ (m : Nat),
 Heap.cell h b (o + Int.toNat member * 7) = some (slice a n m) ∧
 ∃ (a_1 : Option Addr),
 ∃ (n_1 : Nat),
 ∃ (m_1 : Nat),
 Heap.cell h b (o + Int.toNat member * 7 + 1) = some (slice a_1 n_1 m_1) ∧
 ∃ (a_2 : Option Addr),
 ∃ (n_2 : Nat),
 ∃ (m_2 : Nat),
 Heap.cell h b (o + Int.toNat member * 7 + 2) = some (slice a_2 n_2 m_2) ∧
 ∃ (n_3 : Int),
 Heap.cell h b (o + Int.toNat member * 7 + 3) = some (int IntKind.i64 n_3) ∧
 ∃ (n_4 : Int),
 Heap.cell h b (o + Int.toNat member * 7 + 4) = some (int IntKind.i64 n_4) ∧
 ∃ (n_5 : Int),
 Heap.cell h b (o + Int.toNat member * 7 + 5) = some (int IntKind.i64 n_5) ∧
 ∃ (n_6 : Int),
 Heap.cell h b (o + Int.toNat member * 7 + 6) = some (int IntKind.i64 n_6) ∧
 newB h
 [slice none 0 0, slice none 0 0, slice none 0 0, int IntKind.i64 0, int IntKind.i64 0, int IntKind.i64 0, int IntKind.i64 0,
 slice none 0 0]
 141 fun (r_1 : Nat) (h : Heap) =>
 Heap.canSt h r_1 0 8 ∧
 ∃ (a_3 : Option Addr),
 ∃ (n_7 : Nat),
 ∃ (m_3 : Nat),
 Heap.cell
 (Heap.setN h r_1 0
 [slice a n m, slice a_1 n_1 m_1, slice a_2 n_2 m_2, int IntKind.i64 n_3, int IntKind.i64 n_4, int IntKind.i64 n_5,
 int IntKind.i64 n_6, slice none 0 0])
 r_1 0 =
 some (slice a_3 n_7 m_3) ∧
 CallA Tryz.prog fn_slices_Clone_int64_int64 [slice a_3 n_7 m_3]
 (Heap.setN h r_1 0
 [slice a n m, slice a_1 n_1 m_1, slice a_2 n_2 m_2, int IntKind.i64 n_3, int IntKind.i64 n_4, int IntKind.i64 n_5,
 int IntKind.i64 n_6, slice none 0 0])
 fun (v : Value) (h : Heap) =>
 ∃ (a : Option Addr),
 ∃ (n : Nat),
 ∃ (m : Nat),
 v = slice a n m ∧
 Heap.canSt h r_1 7 1 ∧
 L_pworth_Worths_If_0 member r r_1 batch batchn batchc (↑batchn : Int) 0 (Heap.setN h r_1 7 [slice a n m]) K))
theorem F_pworth_Worths_If (w : Option Addr) (member : Int) (batch : Option Addr) (batchn : Nat) (batchc : Nat) (h : Heap) (K : Value → Heap → Prop) (k : F_pworth_Worths_IfT w member batch batchn batchc h K) : CallA Tryz.prog fn_pworth_Worths_If [pointer w, int IntKind.i64 member, slice batch batchn batchc] h K :=
 CallA.of_ev (cs := []) Tryz.func62 (by kernel_rfl) (fun _ _ => Tryz.call62 _ _) mixed (by kernel_rfl) (by kernel_rfl) k
def F_pworth_Worths_If_1T (p_0 : Int) (p_1 : Int) (p_2 : Int) (c0 : Nat) (h : Heap) (K : Value → Heap → Prop) : Prop :=
 newB h [int IntKind.i64 p_0, int IntKind.i64 p_1, int IntKind.i64 p_2] 65 fun (r : Nat) (h : Heap) =>
 ∃ (n : Int),
 Heap.cell h r 1 = some (int IntKind.i64 n) ∧
 Br (decide (n < 0)) (Ret h K (Value.bool true))
 (∃ (n : Int),
 Heap.cell h r 1 = some (int IntKind.i64 n) ∧
 ∃ (a : Option Addr),
 Heap.cell h c0 0 = some (pointer a) ∧
 withAddr a fun (b o : Nat) => ∃ (a : Option Addr), ∃ (n_1 : Nat), ∃ (m : Nat), Heap.cell h b o = some (slice a n_1 m) ∧ Ret h K (Value.bool (decide (n ≥ (↑n_1 : Int)))))
theorem F_pworth_Worths_If_1 (p_0 : Int) (p_1 : Int) (p_2 : Int) (c0 : Nat) (h : Heap) (K : Value → Heap → Prop) (k : F_pworth_Worths_If_1T p_0 p_1 p_2 c0 h K) : CallA Tryz.prog fn_pworth_Worths_If_1 [agg #[int IntKind.i64 p_0, int IntKind.i64 p_1, int IntKind.i64 p_2], pointer (some { block := c0, off := 0 })] h K :=
 CallA.of_ev (cs := []) Tryz.func89 (by kernel_rfl) (fun _ _ => Tryz.call89 _ _) mixed (by kernel_rfl) (by kernel_rfl) k
def L_slices_Equal_int64_int64_0 (s1 : Option Addr) (s1n : Nat) (s1c : Nat) (s2 : Option Addr) (s2n : Nat) (s2c : Nat) (t12 : Int) (t13 : Int) (h : Heap) (K : Value → Heap → Prop) : Prop :=
 LoopAt Tryz.prog Tryz.f92 92 (loopK Tryz.f92 0) (sp 26 [(0, slice s1 s1n s1c), (1, slice s2 s2n s2c), (12, int IntKind.i64 t12), (13, int IntKind.i64 t13)]) h K
def L_slices_Equal_int64_int64_0T (s1 : Option Addr) (s1n : Nat) (s1c : Nat) (s2 : Option Addr) (s2n : Nat) (s2c : Nat) (t12 : Int) (t13 : Int) (h : Heap) (K : Value → Heap → Prop) : Prop :=
 Br (decide (t13 < t12))
 (0 ≤ t13 ∧
 t13 < (↑s1n : Int) ∧
 withAddr s1 fun (b o : Nat) =>
 ∃ (n : Int),
 Heap.cell h b (o + Int.toNat t13) = some (int IntKind.i64 n) ∧
 0 ≤ t13 ∧
 t13 < (↑s2n : Int) ∧
 withAddr s2 fun (b o : Nat) =>
 ∃ (n_1 : Int), Heap.cell h b (o + Int.toNat t13) = some (int IntKind.i64 n_1) ∧ Br (n != n_1) (Ret h K (Value.bool false)) (L_slices_Equal_int64_int64_0 s1 s1n s1c s2 s2n s2c t12 (IntKind.wrap IntKind.i64 (t13 + 1)) h K))
 (Ret h K (Value.bool true))
theorem L_slices_Equal_int64_int64_0r (s1 : Option Addr) (s1n : Nat) (s1c : Nat) (s2 : Option Addr) (s2n : Nat) (s2c : Nat) (t12 : Int) (t13 : Int) (h : Heap) (K : Value → Heap → Prop) (k : L_slices_Equal_int64_int64_0T s1 s1n s1c s2 s2n s2c t12 t13 h K) : L_slices_Equal_int64_int64_0 s1 s1n s1c s2 s2n s2c t12 t13 h K :=
 LoopAt.of_ev (cs := []) Tryz.func92 mixed (fun junk => by kernel_rfl) k
def F_slices_Equal_int64_int64T (s1 : Option Addr) (s1n : Nat) (s1c : Nat) (s2 : Option Addr) (s2n : Nat) (s2c : Nat) (h : Heap) (K : Value → Heap → Prop) : Prop :=
 Br ((↑s1n : Int) != (↑s2n : Int)) (Ret h K (Value.bool false)) (L_slices_Equal_int64_int64_0 s1 s1n s1c s2 s2n s2c (↑s1n : Int) 0 h K)
theorem F_slices_Equal_int64_int64 (s1 : Option Addr) (s1n : Nat) (s1c : Nat) (s2 : Option Addr) (s2n : Nat) (s2c : Nat) (h : Heap) (K : Value → Heap → Prop) (k : F_slices_Equal_int64_int64T s1 s1n s1c s2 s2n s2c h K) : CallA Tryz.prog fn_slices_Equal_int64_int64 [slice s1 s1n s1c, slice s2 s2n s2c] h K :=
 CallA.of_ev (cs := []) Tryz.func92 (by kernel_rfl) (fun _ _ => Tryz.call92 _ _) mixed (by kernel_rfl) (by kernel_rfl) k
def F_slices_ContainsFunc_api_Posting_api_PostingT (s : Option Addr) (sn : Nat) (sc : Nat) (fr0 : Nat) (h : Heap) (K : Value → Heap → Prop) : Prop :=
 CallA Tryz.prog fn_slices_IndexFunc_api_Posting_api_Posting [slice s sn sc, func (Fn.func fn_pworth_Worths_If_1) #[] #[pointer (some { block := fr0, off := 0 })]] h fun (v : Value) (h : Heap) => ∃ (n : Int), v = int IntKind.i64 n ∧ Ret h K (Value.bool (decide (n ≥ 0)))
theorem F_slices_ContainsFunc_api_Posting_api_Posting (s : Option Addr) (sn : Nat) (sc : Nat) (fr0 : Nat) (h : Heap) (K : Value → Heap → Prop) (k : F_slices_ContainsFunc_api_Posting_api_PostingT s sn sc fr0 h K) : CallA Tryz.prog fn_slices_ContainsFunc_api_Posting_api_Posting [slice s sn sc, func (Fn.func fn_pworth_Worths_If_1) #[] #[pointer (some { block := fr0, off := 0 })]] h K :=
 CallA.of_ev (cs := []) Tryz.func91 (by kernel_rfl) (fun _ _ => Tryz.call91 _ _) mixed (by kernel_rfl) (by kernel_rfl) k
def L_slices_IndexFunc_api_Posting_api_Posting_0 (s : Option Addr) (sn : Nat) (sc : Nat) (f_0 : Nat) (t7 : Int) (t8 : Int) (h : Heap) (K : Value → Heap → Prop) : Prop :=
 LoopAt Tryz.prog Tryz.f113 113 (loopK Tryz.f113 0) (sp 19 [(0, slice s sn sc), (1, func (Fn.func fn_pworth_Worths_If_1) #[] #[pointer (some { block := f_0, off := 0 })]), (7, int IntKind.i64 t7), (8, int IntKind.i64 t8)]) h K
def L_slices_IndexFunc_api_Posting_api_Posting_0T (s : Option Addr) (sn : Nat) (sc : Nat) (f_0 : Nat) (t7 : Int) (t8 : Int) (h : Heap) (K : Value → Heap → Prop) : Prop :=
 Br (decide (t8 < t7))
 (0 ≤ t8 ∧
 t8 < (↑sn : Int) ∧
 withAddr s fun (b o : Nat) =>
 ∃ (n : Int),
 Heap.cell h b (o + Int.toNat t8 * 3) = some (int IntKind.i64 n) ∧
 ∃ (n_1 : Int),
 Heap.cell h b (o + Int.toNat t8 * 3 + 1) = some (int IntKind.i64 n_1) ∧
 ∃ (n_2 : Int),
 Heap.cell h b (o + Int.toNat t8 * 3 + 2) = some (int IntKind.i64 n_2) ∧
 CallA Tryz.prog fn_pworth_Worths_If_1 [agg #[int IntKind.i64 n, int IntKind.i64 n_1, int IntKind.i64 n_2], pointer (some { block := f_0, off := 0 })] h fun (v : Value) (h : Heap) =>
 ∃ (b : Bool), v = Value.bool b ∧ Br b (Ret h K (int IntKind.i64 t8)) (L_slices_IndexFunc_api_Posting_api_Posting_0 s sn sc f_0 t7 (IntKind.wrap IntKind.i64 (t8 + 1)) h K))
 (Ret h K (int IntKind.i64 (-1)))
theorem L_slices_IndexFunc_api_Posting_api_Posting_0r (s : Option Addr) (sn : Nat) (sc : Nat) (f_0 : Nat) (t7 : Int) (t8 : Int) (h : Heap) (K : Value → Heap → Prop) (k : L_slices_IndexFunc_api_Posting_api_Posting_0T s sn sc f_0 t7 t8 h K) : L_slices_IndexFunc_api_Posting_api_Posting_0 s sn sc f_0 t7 t8 h K :=
 LoopAt.of_ev (cs := []) Tryz.func113 mixed (fun junk => by kernel_rfl) k
def F_slices_IndexFunc_api_Posting_api_PostingT (s : Option Addr) (sn : Nat) (sc : Nat) (fr0 : Nat) (h : Heap) (K : Value → Heap → Prop) : Prop :=
 L_slices_IndexFunc_api_Posting_api_Posting_0 s sn sc fr0 (↑sn : Int) 0 h K
theorem F_slices_IndexFunc_api_Posting_api_Posting (s : Option Addr) (sn : Nat) (sc : Nat) (fr0 : Nat) (h : Heap) (K : Value → Heap → Prop) (k : F_slices_IndexFunc_api_Posting_api_PostingT s sn sc fr0 h K) : CallA Tryz.prog fn_slices_IndexFunc_api_Posting_api_Posting [slice s sn sc, func (Fn.func fn_pworth_Worths_If_1) #[] #[pointer (some { block := fr0, off := 0 })]] h K :=
 CallA.of_ev (cs := []) Tryz.func113 (by kernel_rfl) (fun _ _ => Tryz.call113 _ _) mixed (by kernel_rfl) (by kernel_rfl) k
end Go.Proofs.YtghdadniddoboaaGreat

namespace Go.Proofs.YtghdadniddoboaaGreat
open Go Go.Sy Go.Value
set_option linter.unusedVariables false
set_option maxRecDepth 100000
def F_slices_Clone_int64_int64T (s : Option Addr) (sn : Nat) (sc : Nat) (h : Heap) (K : Value → Heap → Prop) : Prop :=
 Br (Option.isNone s) (Ret h K (slice none 0 0))
 (newB h [] 2 fun (r : Nat) (h : Heap) => AppA [int IntKind.i64 0] 2 h (some { block := r, off := 0 }) 0 0 sn s fun (ap : Option Addr) (cp : Nat) (h : Heap) => Ret h K (slice ap (0 + sn) cp))
theorem F_slices_Clone_int64_int64 (s : Option Addr) (sn : Nat) (sc : Nat) (h : Heap) (K : Value → Heap → Prop) (k : F_slices_Clone_int64_int64T s sn sc h K) : CallA Tryz.prog fn_slices_Clone_int64_int64 [slice s sn sc] h K :=
 CallA.of_ev (cs := []) Tryz.func36 (by kernel_rfl) (fun _ _ => Tryz.call36 _ _) mixed (by kernel_rfl) (by kernel_rfl) k
end Go.Proofs.YtghdadniddoboaaGreat

namespace Go.Proofs.YtghdadniddoboaaGreat
open Go Go.Sy Go.Value
set_option linter.unusedVariables false
set_option maxRecDepth 100000
def F_pstrings_Builder_WriteByteT (b : Option Addr) (c : Int) (h : Heap) (K : Value → Heap → Prop) : Prop :=
 CallA Tryz.prog fn_pstrings_Builder_copyCheck [pointer b] h fun (v : Value) (h : Heap) =>
 v = tuple #[] ∧
 withAddr b fun (b_1 o : Nat) =>
 ∃ (a : Option Addr),
 ∃ (n : Nat),
 ∃ (m : Nat),
 Heap.cell h b_1 (o + 1) = some (slice a n m) ∧
 newB h [int IntKind.u8 c] 5 fun (r : Nat) (h : Heap) =>
 AppA [int IntKind.u8 0] 5 h a n m 1 (some { block := r, off := 0 }) fun (ap : Option Addr) (cp : Nat) (h : Heap) =>
 withAddr b fun (b o : Nat) => Heap.canSt h b (o + 1) 1 ∧ Ret (Heap.setN h b (o + 1) [slice ap (n + 1) cp]) K nilIface
theorem F_pstrings_Builder_WriteByte (b : Option Addr) (c : Int) (h : Heap) (K : Value → Heap → Prop) (k : F_pstrings_Builder_WriteByteT b c h K) : CallA Tryz.prog fn_pstrings_Builder_WriteByte [pointer b, int IntKind.u8 c] h K :=
 CallA.of_ev (cs := []) Tryz.func54 (by kernel_rfl) (fun _ _ => Tryz.call54 _ _) mixed (by kernel_rfl) (by kernel_rfl) k
def F_pstrings_Builder_StringT (b : Option Addr) (h : Heap) (K : Value → Heap → Prop) : Prop :=
 withAddr b fun (b_1 o : Nat) =>
 ∃ (a : Option Addr),
 ∃ (n : Nat),
 ∃ (m : Nat),
 Heap.cell h b_1 (o + 1) = some (slice a n m) ∧
 (a = none ∨ m ≠ 0) ∧
 withAddr b fun (b o : Nat) =>
 ∃ (a_1 : Option Addr), ∃ (n : Nat), ∃ (m : Nat), Heap.cell h b (o + 1) = some (slice a_1 n m) ∧ UStrA Tryz.prog 5 h a (↑n : Int) fun (s : ByteArray) (h : Heap) => Ret h K (string s)
theorem F_pstrings_Builder_String (b : Option Addr) (h : Heap) (K : Value → Heap → Prop) (k : F_pstrings_Builder_StringT b h K) : CallA Tryz.prog fn_pstrings_Builder_String [pointer b] h K :=
 CallA.of_ev (cs := []) Tryz.func56 (by kernel_rfl) (fun _ _ => Tryz.call56 _ _) mixed (by kernel_rfl) (by kernel_rfl) k
def F_pstrings_Builder_copyCheckT (b : Option Addr) (h : Heap) (K : Value → Heap → Prop) : Prop :=
 withAddr b fun (b_1 o : Nat) =>
 ∃ (a : Option Addr),
 Heap.cell h b_1 o = some (pointer a) ∧
 Br (Option.isNone a)
 (withAddr b fun (b_2 o : Nat) =>
 ToU h b_2 o ∧ LieU Tryz.prog h b_2 o 98 1 ∧ withAddr b fun (b o_1 : Nat) => Heap.canSt h b o_1 1 ∧ Ret (Heap.setN h b o_1 [pointer (some { block := b_2, off := o })]) K (tuple #[]))
 (withAddr b fun (b_2 o : Nat) => ∃ (a : Option Addr), Heap.cell h b_2 o = some (pointer a) ∧ withAddr a fun (b_3 o : Nat) => withAddr b fun (b o_1 : Nat) => b_3 = b ∧ o = o_1 ∧ Ret h K (tuple #[]))
theorem F_pstrings_Builder_copyCheck (b : Option Addr) (h : Heap) (K : Value → Heap → Prop) (k : F_pstrings_Builder_copyCheckT b h K) : CallA Tryz.prog fn_pstrings_Builder_copyCheck [pointer b] h K :=
 CallA.of_ev (cs := []) Tryz.func88 (by kernel_rfl) (fun _ _ => Tryz.call88 _ _) mixed (by kernel_rfl) (by kernel_rfl) k
end Go.Proofs.YtghdadniddoboaaGreat

namespace Go.Proofs.YtghdadniddoboaaGreat
open Go Go.Sy Go.Value
set_option linter.unusedVariables false
set_option maxRecDepth 100000
def F_prisk_Guard_hasT (g : Option Addr) (member : Int) (h : Heap) (K : Value → Heap → Prop) : Prop :=
 Br (decide (member ≥ 0)) (withAddr g fun (b o : Nat) => ∃ (a : Option Addr), ∃ (n : Nat), ∃ (m : Nat), Heap.cell h b (o + 3) = some (slice a n m) ∧ Ret h K (Value.bool (decide (member < (↑n : Int)))))
 (Ret h K (Value.bool false))
theorem F_prisk_Guard_has (g : Option Addr) (member : Int) (h : Heap) (K : Value → Heap → Prop) (k : F_prisk_Guard_hasT g member h K) : CallA Tryz.prog fn_prisk_Guard_has [pointer g, int IntKind.i64 member] h K :=
 CallA.of_ev (cs := []) Tryz.func58 (by kernel_rfl) (fun _ _ => Tryz.call58 _ _) mixed (by kernel_rfl) (by kernel_rfl) k
def F_prisk_Guard_FlaggedT (g : Option Addr) (member : Int) (h : Heap) (K : Value → Heap → Prop) : Prop :=
 CallA Tryz.prog fn_prisk_Guard_has [pointer g, int IntKind.i64 member] h fun (v : Value) (h : Heap) =>
 ∃ (b : Bool),
 v = Value.bool b ∧
 Br b
 (withAddr g fun (b o : Nat) =>
 ∃ (a : Option Addr),
 ∃ (n : Nat),
 ∃ (m : Nat),
 Heap.cell h b (o + 3) = some (slice a n m) ∧
 0 ≤ member ∧ member < (↑n : Int) ∧ withAddr a fun (b o : Nat) => ∃ (b_1 : Bool), Heap.cell h b (o + Int.toNat member) = some (Value.bool b_1) ∧ Ret h K (Value.bool b_1))
 (Ret h K (Value.bool false))
theorem F_prisk_Guard_Flagged (g : Option Addr) (member : Int) (h : Heap) (K : Value → Heap → Prop) (k : F_prisk_Guard_FlaggedT g member h K) : CallA Tryz.prog fn_prisk_Guard_Flagged [pointer g, int IntKind.i64 member] h K :=
 CallA.of_ev (cs := []) Tryz.func25 (by kernel_rfl) (fun _ _ => Tryz.call25 _ _) mixed (by kernel_rfl) (by kernel_rfl) k
def F_risk_fitsT (x_0 : Option Addr) (x_0n : Nat) (x_0c : Nat) (x_1 : Int) (currencies : Int) (h : Heap) (K : Value → Heap → Prop) : Prop :=
 newB h [slice x_0 x_0n x_0c, int IntKind.i64 x_1] 63 fun (r : Nat) (h : Heap) =>
 ∃ (a : Option Addr),
 ∃ (n : Nat),
 ∃ (m : Nat),
 Heap.cell h r 0 = some (slice a n m) ∧
 Br ((↑n : Int) == currencies)
 (∃ (n : Int),
 Heap.cell h r 1 = some (int IntKind.i64 n) ∧
 Br (decide (n ≥ 0))
 (Br (currencies == 0) (Ret h K (Value.bool true))
 (∃ (a : Option Addr),
 ∃ (n : Nat),
 ∃ (m : Nat),
 Heap.cell h r 0 = some (slice a n m) ∧ CallA Tryz.prog fn_slices_Min_int64_int64 [slice a n m] h fun (v : Value) (h : Heap) => ∃ (n : Int), v = int IntKind.i64 n ∧ Ret h K (Value.bool (decide (n ≥ 0)))))
 (Ret h K (Value.bool false)))
 (Ret h K (Value.bool false))
theorem F_risk_fits (x_0 : Option Addr) (x_0n : Nat) (x_0c : Nat) (x_1 : Int) (currencies : Int) (h : Heap) (K : Value → Heap → Prop) (k : F_risk_fitsT x_0 x_0n x_0c x_1 currencies h K) : CallA Tryz.prog fn_risk_fits [agg #[slice x_0 x_0n x_0c, int IntKind.i64 x_1], int IntKind.i64 currencies] h K :=
 CallA.of_ev (cs := []) Tryz.func34 (by kernel_rfl) (fun _ _ => Tryz.call34 _ _) mixed (by kernel_rfl) (by kernel_rfl) k
def L_slices_Min_int64_int64_0 (x : Option Addr) (xn : Nat) (xc : Nat) (m : Int) (i : Int) (h : Heap) (K : Value → Heap → Prop) : Prop :=
 LoopAt Tryz.prog Tryz.f75 75 (loopK Tryz.f75 0) (sp 25 [(0, slice x xn xc), (3, int IntKind.i64 m), (4, int IntKind.i64 i)]) h K
def L_slices_Min_int64_int64_0T (x : Option Addr) (xn : Nat) (xc : Nat) (m : Int) (i : Int) (h : Heap) (K : Value → Heap → Prop) : Prop :=
 Br (decide (i < (↑xn : Int)))
 (0 ≤ i ∧ i < (↑xn : Int) ∧ withAddr x fun (b o : Nat) => ∃ (n : Int), Heap.cell h b (o + Int.toNat i) = some (int IntKind.i64 n) ∧ L_slices_Min_int64_int64_0 x xn xc (if n < m then n else m) (IntKind.wrap IntKind.i64 (i + 1)) h K)
 (Ret h K (int IntKind.i64 m))
theorem L_slices_Min_int64_int64_0r (x : Option Addr) (xn : Nat) (xc : Nat) (m : Int) (i : Int) (h : Heap) (K : Value → Heap → Prop) (k : L_slices_Min_int64_int64_0T x xn xc m i h K) : L_slices_Min_int64_int64_0 x xn xc m i h K :=
 LoopAt.of_ev (cs := []) Tryz.func75 mixed (fun junk => by kernel_rfl) k
def F_slices_Min_int64_int64T (x : Option Addr) (xn : Nat) (xc : Nat) (h : Heap) (K : Value → Heap → Prop) : Prop :=
 Br (decide ((↑xn : Int) < 1)) False ((0 : Int) ≤ 0 ∧ 0 < (↑xn : Int) ∧ withAddr x fun (b o : Nat) => ∃ (n : Int), Heap.cell h b o = some (int IntKind.i64 n) ∧ L_slices_Min_int64_int64_0 x xn xc n 1 h K)
theorem F_slices_Min_int64_int64 (x : Option Addr) (xn : Nat) (xc : Nat) (h : Heap) (K : Value → Heap → Prop) (k : F_slices_Min_int64_int64T x xn xc h K) : CallA Tryz.prog fn_slices_Min_int64_int64 [slice x xn xc] h K :=
 CallA.of_ev (cs := []) Tryz.func75 (by kernel_rfl) (fun _ _ => Tryz.call75 _ _) mixed (by kernel_rfl) (by kernel_rfl) k
def F_risk_New_1T (x_0 : Option Addr) (x_0n : Nat) (x_0c : Nat) (x_1 : Int) (c0 : Nat) (h : Heap) (K : Value → Heap → Prop) : Prop :=
 newB h [slice x_0 x_0n x_0c, int IntKind.i64 x_1] 63 fun (r : Nat) (h : Heap) =>
 ∃ (a : Option Addr),
 ∃ (n : Nat),
 ∃ (m : Nat),
 Heap.cell h r 0 = some (slice a n m) ∧
 ∃ (n_1 : Int),
 Heap.cell h r 1 = some (int IntKind.i64 n_1) ∧
 ∃ (n_2 : Int),
 Heap.cell h c0 0 = some (int IntKind.i64 n_2) ∧
 CallA Tryz.prog fn_risk_fits [agg #[slice a n m, int IntKind.i64 n_1], int IntKind.i64 n_2] h fun (v : Value) (h : Heap) => ∃ (b : Bool), v = Value.bool b ∧ Ret h K (Value.bool !b)
theorem F_risk_New_1 (x_0 : Option Addr) (x_0n : Nat) (x_0c : Nat) (x_1 : Int) (c0 : Nat) (h : Heap) (K : Value → Heap → Prop) (k : F_risk_New_1T x_0 x_0n x_0c x_1 c0 h K) : CallA Tryz.prog fn_risk_New_1 [agg #[slice x_0 x_0n x_0c, int IntKind.i64 x_1], pointer (some { block := c0, off := 0 })] h K :=
 CallA.of_ev (cs := []) Tryz.func33 (by kernel_rfl) (fun _ _ => Tryz.call33 _ _) mixed (by kernel_rfl) (by kernel_rfl) k
def F_slices_ContainsFunc_api_Limit_api_LimitT (s : Option Addr) (sn : Nat) (sc : Nat) (fr0 : Nat) (h : Heap) (K : Value → Heap → Prop) : Prop :=
 CallA Tryz.prog fn_slices_IndexFunc_api_Limit_api_Limit [slice s sn sc, func (Fn.func fn_risk_New_1) #[] #[pointer (some { block := fr0, off := 0 })]] h fun (v : Value) (h : Heap) => ∃ (n : Int), v = int IntKind.i64 n ∧ Ret h K (Value.bool (decide (n ≥ 0)))
theorem F_slices_ContainsFunc_api_Limit_api_Limit (s : Option Addr) (sn : Nat) (sc : Nat) (fr0 : Nat) (h : Heap) (K : Value → Heap → Prop) (k : F_slices_ContainsFunc_api_Limit_api_LimitT s sn sc fr0 h K) : CallA Tryz.prog fn_slices_ContainsFunc_api_Limit_api_Limit [slice s sn sc, func (Fn.func fn_risk_New_1) #[] #[pointer (some { block := fr0, off := 0 })]] h K :=
 CallA.of_ev (cs := []) Tryz.func35 (by kernel_rfl) (fun _ _ => Tryz.call35 _ _) mixed (by kernel_rfl) (by kernel_rfl) k
def L_slices_IndexFunc_api_Limit_api_Limit_0 (s : Option Addr) (sn : Nat) (sc : Nat) (f_0 : Nat) (t7 : Int) (t8 : Int) (h : Heap) (K : Value → Heap → Prop) : Prop :=
 LoopAt Tryz.prog Tryz.f76 76 (loopK Tryz.f76 0) (sp 19 [(0, slice s sn sc), (1, func (Fn.func fn_risk_New_1) #[] #[pointer (some { block := f_0, off := 0 })]), (7, int IntKind.i64 t7), (8, int IntKind.i64 t8)]) h K
def L_slices_IndexFunc_api_Limit_api_Limit_0T (s : Option Addr) (sn : Nat) (sc : Nat) (f_0 : Nat) (t7 : Int) (t8 : Int) (h : Heap) (K : Value → Heap → Prop) : Prop :=
 Br (decide (t8 < t7))
 (0 ≤ t8 ∧
 t8 < (↑sn : Int) ∧
 withAddr s fun (b o : Nat) =>
 ∃ (a : Option Addr),
 ∃ (n : Nat),
 ∃ (m : Nat),
 Heap.cell h b (o + Int.toNat t8 * 2) = some (slice a n m) ∧
 ∃ (n_1 : Int),
 Heap.cell h b (o + Int.toNat t8 * 2 + 1) = some (int IntKind.i64 n_1) ∧
 CallA Tryz.prog fn_risk_New_1 [agg #[slice a n m, int IntKind.i64 n_1], pointer (some { block := f_0, off := 0 })] h fun (v : Value) (h : Heap) =>
 ∃ (b : Bool), v = Value.bool b ∧ Br b (Ret h K (int IntKind.i64 t8)) (L_slices_IndexFunc_api_Limit_api_Limit_0 s sn sc f_0 t7 (IntKind.wrap IntKind.i64 (t8 + 1)) h K))
 (Ret h K (int IntKind.i64 (-1)))
theorem L_slices_IndexFunc_api_Limit_api_Limit_0r (s : Option Addr) (sn : Nat) (sc : Nat) (f_0 : Nat) (t7 : Int) (t8 : Int) (h : Heap) (K : Value → Heap → Prop) (k : L_slices_IndexFunc_api_Limit_api_Limit_0T s sn sc f_0 t7 t8 h K) : L_slices_IndexFunc_api_Limit_api_Limit_0 s sn sc f_0 t7 t8 h K :=
 LoopAt.of_ev (cs := []) Tryz.func76 mixed (fun junk => by kernel_rfl) k
def F_slices_IndexFunc_api_Limit_api_LimitT (s : Option Addr) (sn : Nat) (sc : Nat) (fr0 : Nat) (h : Heap) (K : Value → Heap → Prop) : Prop :=
 L_slices_IndexFunc_api_Limit_api_Limit_0 s sn sc fr0 (↑sn : Int) 0 h K
theorem F_slices_IndexFunc_api_Limit_api_Limit (s : Option Addr) (sn : Nat) (sc : Nat) (fr0 : Nat) (h : Heap) (K : Value → Heap → Prop) (k : F_slices_IndexFunc_api_Limit_api_LimitT s sn sc fr0 h K) : CallA Tryz.prog fn_slices_IndexFunc_api_Limit_api_Limit [slice s sn sc, func (Fn.func fn_risk_New_1) #[] #[pointer (some { block := fr0, off := 0 })]] h K :=
 CallA.of_ev (cs := []) Tryz.func76 (by kernel_rfl) (fun _ _ => Tryz.call76 _ _) mixed (by kernel_rfl) (by kernel_rfl) k
def L_risk_moved_0 (l : Option Addr) (ln : Nat) (lc : Nat) (t6 : Option Addr) (t6n : Nat) (t6c : Nat) (t7 : Int) (t8 : Int) (h : Heap) (K : Value → Heap → Prop) : Prop :=
 LoopAt Tryz.prog Tryz.f67 67 (loopK Tryz.f67 0) (sp 24 [(3, slice l ln lc), (6, slice t6 t6n t6c), (7, int IntKind.i64 t7), (8, int IntKind.i64 t8)]) h K
def L_risk_moved_0T (l : Option Addr) (ln : Nat) (lc : Nat) (t6 : Option Addr) (t6n : Nat) (t6c : Nat) (t7 : Int) (t8 : Int) (h : Heap) (K : Value → Heap → Prop) : Prop :=
 Br (decide (t8 < t7))
 (0 ≤ t8 ∧
 t8 < (↑t6n : Int) ∧
 withAddr t6 fun (b o : Nat) =>
 ∃ (n : Int),
 Heap.cell h b (o + Int.toNat t8 * 3) = some (int IntKind.i64 n) ∧
 ∃ (n_1 : Int),
 Heap.cell h b (o + Int.toNat t8 * 3 + 1) = some (int IntKind.i64 n_1) ∧
 ∃ (n_2 : Int),
 Heap.cell h b (o + Int.toNat t8 * 3 + 2) = some (int IntKind.i64 n_2) ∧
 newB h [int IntKind.i64 0, int IntKind.i64 0, int IntKind.i64 0] 65 fun (r : Nat) (h : Heap) =>
 Heap.canSt h r 0 3 ∧
 ∃ (n_3 : Int),
 Heap.cell (Heap.setN h r 0 [int IntKind.i64 n, int IntKind.i64 n_1, int IntKind.i64 n_2]) r 0 = some (int IntKind.i64 n_3) ∧
 CallA Tryz.prog fn_slices_Contains_int_int [slice l ln lc, int IntKind.i64 n_3] (Heap.setN h r 0 [int IntKind.i64 n, int IntKind.i64 n_1, int IntKind.i64 n_2]) fun (v : Value) (h : Heap) =>
 ∃ (b : Bool),
 v = Value.bool b ∧
 Br (!b)
 (∃ (n : Int),
 Heap.cell h r 0 = some (int IntKind.i64 n) ∧
 newB h [int IntKind.i64 n] 3 fun (r : Nat) (h : Heap) =>
 AppA [int IntKind.i64 0] 3 h l ln lc 1 (some { block := r, off := 0 }) fun (ap : Option Addr) (cp : Nat) (h : Heap) =>
 L_risk_moved_0 ap (ln + 1) cp t6 t6n t6c t7 (IntKind.wrap IntKind.i64 (t8 + 1)) h K)
 (L_risk_moved_0 l ln lc t6 t6n t6c t7 (IntKind.wrap IntKind.i64 (t8 + 1)) h K))
 (Ret h K (slice l ln lc))
theorem L_risk_moved_0r (l : Option Addr) (ln : Nat) (lc : Nat) (t6 : Option Addr) (t6n : Nat) (t6c : Nat) (t7 : Int) (t8 : Int) (h : Heap) (K : Value → Heap → Prop) (k : L_risk_moved_0T l ln lc t6 t6n t6c t7 t8 h K) : L_risk_moved_0 l ln lc t6 t6n t6c t7 t8 h K :=
 LoopAt.of_ev (cs := []) Tryz.func67 mixed (fun junk => by kernel_rfl) k
def F_risk_movedT (batch : Option Addr) (batchn : Nat) (batchc : Nat) (h : Heap) (K : Value → Heap → Prop) : Prop :=
 L_risk_moved_0 none 0 0 batch batchn batchc (↑batchn : Int) 0 h K
theorem F_risk_moved (batch : Option Addr) (batchn : Nat) (batchc : Nat) (h : Heap) (K : Value → Heap → Prop) (k : F_risk_movedT batch batchn batchc h K) : CallA Tryz.prog fn_risk_moved [slice batch batchn batchc] h K :=
 CallA.of_ev (cs := []) Tryz.func67 (by kernel_rfl) (fun _ _ => Tryz.call67 _ _) mixed (by kernel_rfl) (by kernel_rfl) k
def F_slices_Contains_int_intT (s : Option Addr) (sn : Nat) (sc : Nat) (v : Int) (h : Heap) (K : Value → Heap → Prop) : Prop :=
 CallA Tryz.prog fn_slices_Index_int_int [slice s sn sc, int IntKind.i64 v] h fun (v : Value) (h : Heap) => ∃ (n : Int), v = int IntKind.i64 n ∧ Ret h K (Value.bool (decide (n ≥ 0)))
theorem F_slices_Contains_int_int (s : Option Addr) (sn : Nat) (sc : Nat) (v : Int) (h : Heap) (K : Value → Heap → Prop) (k : F_slices_Contains_int_intT s sn sc v h K) : CallA Tryz.prog fn_slices_Contains_int_int [slice s sn sc, int IntKind.i64 v] h K :=
 CallA.of_ev (cs := []) Tryz.func97 (by kernel_rfl) (fun _ _ => Tryz.call97 _ _) mixed (by kernel_rfl) (by kernel_rfl) k
def L_slices_Index_int_int_0 (s : Option Addr) (sn : Nat) (sc : Nat) (v : Int) (t7 : Int) (t8 : Int) (h : Heap) (K : Value → Heap → Prop) : Prop :=
 LoopAt Tryz.prog Tryz.f116 116 (loopK Tryz.f116 0) (sp 19 [(0, slice s sn sc), (1, int IntKind.i64 v), (7, int IntKind.i64 t7), (8, int IntKind.i64 t8)]) h K
def L_slices_Index_int_int_0T (s : Option Addr) (sn : Nat) (sc : Nat) (v : Int) (t7 : Int) (t8 : Int) (h : Heap) (K : Value → Heap → Prop) : Prop :=
 Br (decide (t8 < t7))
 (0 ≤ t8 ∧
 t8 < (↑sn : Int) ∧
 withAddr s fun (b o : Nat) => ∃ (n : Int), Heap.cell h b (o + Int.toNat t8) = some (int IntKind.i64 n) ∧ Br (v == n) (Ret h K (int IntKind.i64 t8)) (L_slices_Index_int_int_0 s sn sc v t7 (IntKind.wrap IntKind.i64 (t8 + 1)) h K))
 (Ret h K (int IntKind.i64 (-1)))
theorem L_slices_Index_int_int_0r (s : Option Addr) (sn : Nat) (sc : Nat) (v : Int) (t7 : Int) (t8 : Int) (h : Heap) (K : Value → Heap → Prop) (k : L_slices_Index_int_int_0T s sn sc v t7 t8 h K) : L_slices_Index_int_int_0 s sn sc v t7 t8 h K :=
 LoopAt.of_ev (cs := []) Tryz.func116 mixed (fun junk => by kernel_rfl) k
def F_slices_Index_int_intT (s : Option Addr) (sn : Nat) (sc : Nat) (v : Int) (h : Heap) (K : Value → Heap → Prop) : Prop :=
 L_slices_Index_int_int_0 s sn sc v (↑sn : Int) 0 h K
theorem F_slices_Index_int_int (s : Option Addr) (sn : Nat) (sc : Nat) (v : Int) (h : Heap) (K : Value → Heap → Prop) (k : F_slices_Index_int_intT s sn sc v h K) : CallA Tryz.prog fn_slices_Index_int_int [slice s sn sc, int IntKind.i64 v] h K :=
 CallA.of_ev (cs := []) Tryz.func116 (by kernel_rfl) (fun _ _ => Tryz.call116 _ _) mixed (by kernel_rfl) (by kernel_rfl) k
end Go.Proofs.YtghdadniddoboaaGreat

namespace Go.Proofs.YtghdadniddoboaaGreat
open Go Go.Sy Go.Value
set_option linter.unusedVariables false
set_option maxRecDepth 100000
def L_prisk_Guard_Fails_0 (g : Option Addr) (member : Int) (batch : Option Addr) (batchn : Nat) (batchc : Nat) (limit : Nat) (balance : Option Addr) (balancen : Nat) (balancec : Nat) (t35 : Int) (t36 : Int) (h : Heap) (K : Value → Heap → Prop) : Prop :=
 LoopAt Tryz.prog Tryz.f20 20 (loopK Tryz.f20 0) (sp 122 [(0, pointer g), (1, int IntKind.i64 member), (2, slice batch batchn batchc), (7, pointer (some { block := limit, off := 0 })), (8, slice balance balancen balancec), (35, int IntKind.i64 t35), (36, int IntKind.i64 t36)]) h K
def L_prisk_Guard_Fails_1 (g : Option Addr) (member : Int) (batch : Option Addr) (batchn : Nat) (batchc : Nat) (limit : Nat) (balance : Option Addr) (balancen : Nat) (balancec : Nat) (t50 : Option Addr) (t50n : Nat) (t50c : Nat) (t51 : Int) (t52 : Int) (h : Heap) (K : Value → Heap → Prop) : Prop :=
 LoopAt Tryz.prog Tryz.f20 20 (loopK Tryz.f20 1) (sp 122 [(0, pointer g), (1, int IntKind.i64 member), (2, slice batch batchn batchc), (7, pointer (some { block := limit, off := 0 })), (8, slice balance balancen balancec), (50, slice t50 t50n t50c), (51, int IntKind.i64 t51),
 (52, int IntKind.i64 t52)]) h K
def L_prisk_Guard_Fails_2 (g : Option Addr) (member : Int) (batch : Option Addr) (batchn : Nat) (batchc : Nat) (limit : Nat) (balance : Option Addr) (balancen : Nat) (balancec : Nat) (t67 : Option Addr) (t67n : Nat) (t67c : Nat) (t68 : Int) (t69 : Int) (h : Heap) (K : Value → Heap → Prop) : Prop :=
 LoopAt Tryz.prog Tryz.f20 20 (loopK Tryz.f20 2) (sp 122 [(0, pointer g), (1, int IntKind.i64 member), (2, slice batch batchn batchc), (7, pointer (some { block := limit, off := 0 })), (8, slice balance balancen balancec), (67, slice t67 t67n t67c), (68, int IntKind.i64 t68),
 (69, int IntKind.i64 t69)]) h K
def L_prisk_Guard_Fails_3 (g : Option Addr) (member : Int) (batch : Option Addr) (batchn : Nat) (batchc : Nat) (limit : Nat) (bits : Int) (t96 : Option Addr) (t96n : Nat) (t96c : Nat) (t97 : Int) (t98 : Int) (h : Heap) (K : Value → Heap → Prop) : Prop :=
 LoopAt Tryz.prog Tryz.f20 20 (loopK Tryz.f20 3) (sp 122 [(0, pointer g), (1, int IntKind.i64 member), (2, slice batch batchn batchc), (7, pointer (some { block := limit, off := 0 })), (16, int IntKind.i64 bits), (96, slice t96 t96n t96c), (97, int IntKind.i64 t97),
 (98, int IntKind.i64 t98)]) h K
def L_prisk_Guard_Fails_0T (g : Option Addr) (member : Int) (batch : Option Addr) (batchn : Nat) (batchc : Nat) (limit : Nat) (balance : Option Addr) (balancen : Nat) (balancec : Nat) (t35 : Int) (t36 : Int) (h : Heap) (K : Value → Heap → Prop) : Prop :=
 Br (decide (t36 < t35))
 (withAddr g fun (b o : Nat) =>
 ∃ (a : Option Addr),
 Heap.cell h b o = some (pointer a) ∧
 CallA Tryz.prog fn_pledger_Ledger_Get [pointer a, int IntKind.i64 member, int IntKind.i64 t36] h fun (v : Value) (h : Heap) =>
 ∃ (n : Int),
 v = int IntKind.i64 n ∧
 0 ≤ t36 ∧
 t36 < (↑balancen : Int) ∧
 withAddr balance fun (b o : Nat) =>
 Heap.canSt h b (o + Int.toNat t36) 1 ∧
 L_prisk_Guard_Fails_0 g member batch batchn batchc limit balance balancen balancec t35 (IntKind.wrap IntKind.i64 (t36 + 1)) (Heap.setN h b (o + Int.toNat t36) [int IntKind.i64 n]) K)
 (L_prisk_Guard_Fails_1 g member batch batchn batchc limit balance balancen balancec batch batchn batchc (↑batchn : Int) 0 h K)
theorem L_prisk_Guard_Fails_0r (g : Option Addr) (member : Int) (batch : Option Addr) (batchn : Nat) (batchc : Nat) (limit : Nat) (balance : Option Addr) (balancen : Nat) (balancec : Nat) (t35 : Int) (t36 : Int) (h : Heap) (K : Value → Heap → Prop) (k : L_prisk_Guard_Fails_0T g member batch batchn batchc limit balance balancen balancec t35 t36 h K) : L_prisk_Guard_Fails_0 g member batch batchn batchc limit balance balancen balancec t35 t36 h K :=
 LoopAt.of_ev (cs := []) Tryz.func20 mixed (fun junk => by kernel_rfl) k
def L_prisk_Guard_Fails_1T (g : Option Addr) (member : Int) (batch : Option Addr) (batchn : Nat) (batchc : Nat) (limit : Nat) (balance : Option Addr) (balancen : Nat) (balancec : Nat) (t50 : Option Addr) (t50n : Nat) (t50c : Nat) (t51 : Int) (t52 : Int) (h : Heap) (K : Value → Heap → Prop) : Prop :=
 Br (decide (t52 < t51))
 (0 ≤ t52 ∧
 t52 < (↑t50n : Int) ∧
 withAddr t50 fun (b o : Nat) =>
 ∃ (n : Int),
 Heap.cell h b (o + Int.toNat t52 * 3) = some (int IntKind.i64 n) ∧
 ∃ (n_1 : Int),
 Heap.cell h b (o + Int.toNat t52 * 3 + 1) = some (int IntKind.i64 n_1) ∧
 ∃ (n_2 : Int),
 Heap.cell h b (o + Int.toNat t52 * 3 + 2) = some (int IntKind.i64 n_2) ∧
 newB h [int IntKind.i64 0, int IntKind.i64 0, int IntKind.i64 0] 65 fun (r : Nat) (h : Heap) =>
 Heap.canSt h r 0 3 ∧
 ∃ (n_3 : Int),
 Heap.cell (Heap.setN h r 0 [int IntKind.i64 n, int IntKind.i64 n_1, int IntKind.i64 n_2]) r 1 = some (int IntKind.i64 n_3) ∧
 Br (decide (n_3 < 0)) (Ret (Heap.setN h r 0 [int IntKind.i64 n, int IntKind.i64 n_1, int IntKind.i64 n_2]) K (int IntKind.i64 7))
 (∃ (n_4 : Int),
 Heap.cell (Heap.setN h r 0 [int IntKind.i64 n, int IntKind.i64 n_1, int IntKind.i64 n_2]) r 1 = some (int IntKind.i64 n_4) ∧
 Br (decide (n_4 ≥ (↑balancen : Int))) (Ret (Heap.setN h r 0 [int IntKind.i64 n, int IntKind.i64 n_1, int IntKind.i64 n_2]) K (int IntKind.i64 7))
 (L_prisk_Guard_Fails_1 g member batch batchn batchc limit balance balancen balancec t50 t50n t50c t51 (IntKind.wrap IntKind.i64 (t52 + 1))
 (Heap.setN h r 0 [int IntKind.i64 n, int IntKind.i64 n_1, int IntKind.i64 n_2]) K)))
 (L_prisk_Guard_Fails_2 g member batch batchn batchc limit balance balancen balancec batch batchn batchc (↑batchn : Int) 0 h K)
theorem L_prisk_Guard_Fails_1r (g : Option Addr) (member : Int) (batch : Option Addr) (batchn : Nat) (batchc : Nat) (limit : Nat) (balance : Option Addr) (balancen : Nat) (balancec : Nat) (t50 : Option Addr) (t50n : Nat) (t50c : Nat) (t51 : Int) (t52 : Int) (h : Heap) (K : Value → Heap → Prop) (k : L_prisk_Guard_Fails_1T g member batch batchn batchc limit balance balancen balancec t50 t50n t50c t51 t52 h K) : L_prisk_Guard_Fails_1 g member batch batchn batchc limit balance balancen balancec t50 t50n t50c t51 t52 h K :=
 LoopAt.of_ev (cs := []) Tryz.func20 mixed (fun junk => by kernel_rfl) k
def L_prisk_Guard_Fails_2T (g : Option Addr) (member : Int) (batch : Option Addr) (batchn : Nat) (batchc : Nat) (limit : Nat) (balance : Option Addr) (balancen : Nat) (balancec : Nat) (t67 : Option Addr) (t67n : Nat) (t67c : Nat) (t68 : Int) (t69 : Int) (h : Heap) (K : Value → Heap → Prop) : Prop :=
 Br (decide (t69 < t68))
 (0 ≤ t69 ∧
 t69 < (↑t67n : Int) ∧
 withAddr t67 fun (b o : Nat) =>
 ∃ (n : Int),
 Heap.cell h b (o + Int.toNat t69 * 3) = some (int IntKind.i64 n) ∧
 ∃ (n_1 : Int),
 Heap.cell h b (o + Int.toNat t69 * 3 + 1) = some (int IntKind.i64 n_1) ∧
 ∃ (n_2 : Int),
 Heap.cell h b (o + Int.toNat t69 * 3 + 2) = some (int IntKind.i64 n_2) ∧
 newB h [int IntKind.i64 0, int IntKind.i64 0, int IntKind.i64 0] 65 fun (r : Nat) (h : Heap) =>
 Heap.canSt h r 0 3 ∧
 ∃ (n_3 : Int),
 Heap.cell (Heap.setN h r 0 [int IntKind.i64 n, int IntKind.i64 n_1, int IntKind.i64 n_2]) r 0 = some (int IntKind.i64 n_3) ∧
 Br (n_3 != member)
 (L_prisk_Guard_Fails_2 g member batch batchn batchc limit balance balancen balancec t67 t67n t67c t68 (IntKind.wrap IntKind.i64 (t69 + 1))
 (Heap.setN h r 0 [int IntKind.i64 n, int IntKind.i64 n_1, int IntKind.i64 n_2]) K)
 (∃ (n_4 : Int),
 Heap.cell (Heap.setN h r 0 [int IntKind.i64 n, int IntKind.i64 n_1, int IntKind.i64 n_2]) r 1 = some (int IntKind.i64 n_4) ∧
 0 ≤ n_4 ∧
 n_4 < (↑balancen : Int) ∧
 withAddr balance fun (b o : Nat) =>
 ∃ (n_5 : Int),
 Heap.cell (Heap.setN h r 0 [int IntKind.i64 n, int IntKind.i64 n_1, int IntKind.i64 n_2]) b (o + Int.toNat n_4) = some (int IntKind.i64 n_5) ∧
 ∃ (n_6 : Int),
 Heap.cell (Heap.setN h r 0 [int IntKind.i64 n, int IntKind.i64 n_1, int IntKind.i64 n_2]) r 2 = some (int IntKind.i64 n_6) ∧
 CallA Tryz.prog fn_money_Add [int IntKind.i64 n_5, int IntKind.i64 n_6] (Heap.setN h r 0 [int IntKind.i64 n, int IntKind.i64 n_1, int IntKind.i64 n_2])
 fun (v : Value) (h : Heap) =>
 ∃ (n : Int),
 ∃ (n_7 : Int),
 v = tuple #[int IntKind.i64 n, int IntKind.i64 n_7] ∧
 Br (n_7 != 0) (Ret h K (int IntKind.i64 7))
 (∃ (n_8 : Int),
 Heap.cell h r 1 = some (int IntKind.i64 n_8) ∧
 0 ≤ n_8 ∧
 n_8 < (↑balancen : Int) ∧
 withAddr balance fun (b o : Nat) =>
 Heap.canSt h b (o + Int.toNat n_8) 1 ∧
 L_prisk_Guard_Fails_2 g member batch batchn batchc limit balance balancen balancec t67 t67n t67c t68 (IntKind.wrap IntKind.i64 (t69 + 1))
 (Heap.setN h b (o + Int.toNat n_8) [int IntKind.i64 n]) K)))
 (L_prisk_Guard_Fails_3 g member batch batchn batchc limit 0 balance balancen balancec (↑balancen : Int) 0 h K)
theorem L_prisk_Guard_Fails_2r (g : Option Addr) (member : Int) (batch : Option Addr) (batchn : Nat) (batchc : Nat) (limit : Nat) (balance : Option Addr) (balancen : Nat) (balancec : Nat) (t67 : Option Addr) (t67n : Nat) (t67c : Nat) (t68 : Int) (t69 : Int) (h : Heap) (K : Value → Heap → Prop) (k : L_prisk_Guard_Fails_2T g member batch batchn batchc limit balance balancen balancec t67 t67n t67c t68 t69 h K) : L_prisk_Guard_Fails_2 g member batch batchn batchc limit balance balancen balancec t67 t67n t67c t68 t69 h K :=
 LoopAt.of_ev (cs := []) Tryz.func20 mixed (fun junk => by kernel_rfl) k
def L_prisk_Guard_Fails_3T (g : Option Addr) (member : Int) (batch : Option Addr) (batchn : Nat) (batchc : Nat) (limit : Nat) (bits : Int) (t96 : Option Addr) (t96n : Nat) (t96c : Nat) (t97 : Int) (t98 : Int) (h : Heap) (K : Value → Heap → Prop) : Prop :=
 Br (decide (t98 < t97))
 (0 ≤ t98 ∧
 t98 < (↑t96n : Int) ∧
 withAddr t96 fun (b o : Nat) =>
 ∃ (n : Int),
 Heap.cell h b (o + Int.toNat t98) = some (int IntKind.i64 n) ∧
 ∃ (a : Option Addr),
 ∃ (n_1 : Nat),
 ∃ (m : Nat),
 Heap.cell h limit 0 = some (slice a n_1 m) ∧
 0 ≤ t98 ∧
 t98 < (↑n_1 : Int) ∧
 withAddr a fun (b o : Nat) =>
 ∃ (n_2 : Int),
 Heap.cell h b (o + Int.toNat t98) = some (int IntKind.i64 n_2) ∧
 Br (decide (n < IntKind.wrap IntKind.i64 (0 - n_2)))
 (L_prisk_Guard_Fails_3 g member batch batchn batchc limit (IntKind.wrap IntKind.i64 (↑(BitVec.toNat (BitVec.ofInt 64 bits ||| BitVec.ofInt 64 2)) : Int)) t96 t96n t96c t97
 (IntKind.wrap IntKind.i64 (t98 + 1)) h K)
 (L_prisk_Guard_Fails_3 g member batch batchn batchc limit bits t96 t96n t96c t97 (IntKind.wrap IntKind.i64 (t98 + 1)) h K))
 (∃ (n : Int),
 Heap.cell h limit 1 = some (int IntKind.i64 n) ∧
 CallA Tryz.prog fn_prisk_Guard_sums [pointer g, int IntKind.i64 member, slice batch batchn batchc, int IntKind.i64 n] h fun (v : Value) (h : Heap) =>
 ∃ (n : Int), v = int IntKind.i64 n ∧ Ret h K (int IntKind.i64 (IntKind.wrap IntKind.i64 (↑(BitVec.toNat (BitVec.ofInt 64 bits ||| BitVec.ofInt 64 n)) : Int))))
theorem L_prisk_Guard_Fails_3r (g : Option Addr) (member : Int) (batch : Option Addr) (batchn : Nat) (batchc : Nat) (limit : Nat) (bits : Int) (t96 : Option Addr) (t96n : Nat) (t96c : Nat) (t97 : Int) (t98 : Int) (h : Heap) (K : Value → Heap → Prop) (k : L_prisk_Guard_Fails_3T g member batch batchn batchc limit bits t96 t96n t96c t97 t98 h K) : L_prisk_Guard_Fails_3 g member batch batchn batchc limit bits t96 t96n t96c t97 t98 h K :=
 LoopAt.of_ev (cs := []) Tryz.func20 mixed (fun junk => by kernel_rfl) k
def F_prisk_Guard_FailsT (g : Option Addr) (member : Int) (batch : Option Addr) (batchn : Nat) (batchc : Nat) (h : Heap) (K : Value → Heap → Prop) : Prop :=
 CallA Tryz.prog fn_prisk_Guard_has [pointer g, int IntKind.i64 member] h fun (v : Value) (h : Heap) =>
 ∃ (b : Bool),
 v = Value.bool b ∧
 Br (!b) (Ret h K (int IntKind.i64 7))
 (withAddr g fun (b o : Nat) =>
 ∃ (a : Option Addr),
 ∃ (n : Nat),
 ∃ (m : Nat),
 Heap.cell h b (o + 2) = some (slice a n m) ∧
 0 ≤ member ∧
 member < (↑n : Int) ∧
 withAddr a fun (b o : Nat) =>
 ∃ (a : Option Addr),
 ∃ (n : Nat),
 ∃ (m : Nat),
 Heap.cell h b (o + Int.toNat member * 2) = some (slice a n m) ∧
 ∃ (n_1 : Int),
 Heap.cell h b (o + Int.toNat member * 2 + 1) = some (int IntKind.i64 n_1) ∧
 newB h [slice none 0 0, int IntKind.i64 0] 63 fun (r : Nat) (h : Heap) =>
 Heap.canSt h r 0 2 ∧
 ∃ (a_1 : Option Addr),
 ∃ (n_2 : Nat),
 ∃ (m_1 : Nat),
 Heap.cell (Heap.setN h r 0 [slice a n m, int IntKind.i64 n_1]) r 0 = some (slice a_1 n_2 m_1) ∧
 0 ≤ (↑n_2 : Int) ∧
 (↑n_2 : Int) ≤ (↑n_2 : Int) ∧
 (↑n_2 : Int) ≤ 281474976710656 ∧
 8 * (↑n_2 : Int) ≤ 281474976710656 ∧
 newB (Heap.setN h r 0 [slice a n m, int IntKind.i64 n_1]) (repL (Int.toNat (↑n_2 : Int)) [int IntKind.i64 0]) 2 fun (r_1 : Nat) (h : Heap) =>
 L_prisk_Guard_Fails_0 g member batch batchn batchc r (some { block := r_1, off := 0 }) (Int.toNat (↑n_2 : Int)) (Int.toNat (↑n_2 : Int)) (↑(Int.toNat (↑n_2 : Int)) : Int) 0 h K)
theorem F_prisk_Guard_Fails (g : Option Addr) (member : Int) (batch : Option Addr) (batchn : Nat) (batchc : Nat) (h : Heap) (K : Value → Heap → Prop) (k : F_prisk_Guard_FailsT g member batch batchn batchc h K) : CallA Tryz.prog fn_prisk_Guard_Fails [pointer g, int IntKind.i64 member, slice batch batchn batchc] h K :=
 CallA.of_ev (cs := []) Tryz.func20 (by kernel_rfl) (fun _ _ => Tryz.call20 _ _) mixed (by kernel_rfl) (by kernel_rfl) k
def F_prisk_Guard_sumsT (g : Option Addr) (member : Int) (batch : Option Addr) (batchn : Nat) (batchc : Nat) (most : Int) (h : Heap) (K : Value → Heap → Prop) : Prop :=
 withAddr g fun (b o : Nat) =>
 ∃ (a : Option Addr),
 Heap.cell h b (o + 1) = some (pointer a) ∧
 CallA Tryz.prog fn_pworth_Worths_If [pointer a, int IntKind.i64 member, slice batch batchn batchc] h fun (v : Value) (h : Heap) =>
 ∃ (n : Int),
 ∃ (n_1 : Int),
 ∃ (n_2 : Int),
 v = tuple #[int IntKind.i64 n, int IntKind.i64 n_1, int IntKind.i64 n_2] ∧
 Br (n_2 == 0)
 (Br (decide (n < 0)) (Br (decide (n_1 > most)) (Ret h K (int IntKind.i64 5)) (Ret h K (int IntKind.i64 1))) (Br (decide (n_1 > most)) (Ret h K (int IntKind.i64 4)) (Ret h K (int IntKind.i64 0))))
 (Ret h K (int IntKind.i64 7))
theorem F_prisk_Guard_sums (g : Option Addr) (member : Int) (batch : Option Addr) (batchn : Nat) (batchc : Nat) (most : Int) (h : Heap) (K : Value → Heap → Prop) (k : F_prisk_Guard_sumsT g member batch batchn batchc most h K) : CallA Tryz.prog fn_prisk_Guard_sums [pointer g, int IntKind.i64 member, slice batch batchn batchc, int IntKind.i64 most] h K :=
 CallA.of_ev (cs := []) Tryz.func60 (by kernel_rfl) (fun _ _ => Tryz.call60 _ _) mixed (by kernel_rfl) (by kernel_rfl) k
def L_prisk_Guard_judge_0 (g : Option Addr) (t7 : Int) (t8 : Int) (h : Heap) (K : Value → Heap → Prop) : Prop :=
 LoopAt Tryz.prog Tryz.f37 37 (loopK Tryz.f37 0) (sp 22 [(0, pointer g), (7, int IntKind.i64 t7), (8, int IntKind.i64 t8)]) h K
def L_prisk_Guard_judge_0T (g : Option Addr) (t7 : Int) (t8 : Int) (h : Heap) (K : Value → Heap → Prop) : Prop :=
 Br (decide (t8 < t7))
 (withAddr g fun (b o : Nat) =>
 ∃ (a : Option Addr),
 ∃ (n : Nat),
 ∃ (m : Nat),
 Heap.cell h b (o + 3) = some (slice a n m) ∧
 CallA Tryz.prog fn_prisk_Guard_Fails [pointer g, int IntKind.i64 t8, slice none 0 0] h fun (v : Value) (h_1 : Heap) =>
 ∃ (n_1 : Int),
 v = int IntKind.i64 n_1 ∧
 (Heap.le h h_1 ∨ Keeps [b] h h_1) ∧
 0 ≤ t8 ∧
 t8 < (↑n : Int) ∧ withAddr a fun (b o : Nat) => Heap.canSt h_1 b (o + Int.toNat t8) 1 ∧ L_prisk_Guard_judge_0 g t7 (IntKind.wrap IntKind.i64 (t8 + 1)) (Heap.setN h_1 b (o + Int.toNat t8) [Value.bool (n_1 != 0)]) K)
 (Ret h K (tuple #[]))
theorem L_prisk_Guard_judge_0r (g : Option Addr) (t7 : Int) (t8 : Int) (h : Heap) (K : Value → Heap → Prop) (k : L_prisk_Guard_judge_0T g t7 t8 h K) : L_prisk_Guard_judge_0 g t7 t8 h K :=
 LoopAt.of_ev (cs := []) Tryz.func37 mixed (fun junk => by kernel_rfl) k
def F_prisk_Guard_judgeT (g : Option Addr) (h : Heap) (K : Value → Heap → Prop) : Prop :=
 withAddr g fun (b o : Nat) => ∃ (a : Option Addr), ∃ (n : Nat), ∃ (m : Nat), Heap.cell h b (o + 3) = some (slice a n m) ∧ L_prisk_Guard_judge_0 g (↑n : Int) 0 h K
theorem F_prisk_Guard_judge (g : Option Addr) (h : Heap) (K : Value → Heap → Prop) (k : F_prisk_Guard_judgeT g h K) : CallA Tryz.prog fn_prisk_Guard_judge [pointer g] h K :=
 CallA.of_ev (cs := []) Tryz.func37 (by kernel_rfl) (fun _ _ => Tryz.call37 _ _) mixed (by kernel_rfl) (by kernel_rfl) k
def L_prisk_Guard_anew_0 (g : Option Addr) (e : Int) (t12 : Int) (t13 : Int) (h : Heap) (K : Value → Heap → Prop) : Prop :=
 LoopAt Tryz.prog Tryz.f79 79 (loopK Tryz.f79 0) (sp 26 [(0, pointer g), (1, int IntKind.i64 e), (12, int IntKind.i64 t12), (13, int IntKind.i64 t13)]) h K
def L_prisk_Guard_anew_0T (g : Option Addr) (e : Int) (t12 : Int) (t13 : Int) (h : Heap) (K : Value → Heap → Prop) : Prop :=
 Br (decide (t13 < t12))
 (withAddr g fun (b o : Nat) =>
 ∃ (a : Option Addr),
 Heap.cell h b (o + 1) = some (pointer a) ∧ CallA Tryz.prog fn_pworth_Worths_Moved [pointer a, int IntKind.i64 t13] h fun (v : Value) (h : Heap) => v = tuple #[] ∧ L_prisk_Guard_anew_0 g e t12 (IntKind.wrap IntKind.i64 (t13 + 1)) h K)
 (CallA Tryz.prog fn_prisk_Guard_judge [pointer g] h fun (v : Value) (h : Heap) => v = tuple #[] ∧ Ret h K (int IntKind.i64 e))
theorem L_prisk_Guard_anew_0r (g : Option Addr) (e : Int) (t12 : Int) (t13 : Int) (h : Heap) (K : Value → Heap → Prop) (k : L_prisk_Guard_anew_0T g e t12 t13 h K) : L_prisk_Guard_anew_0 g e t12 t13 h K :=
 LoopAt.of_ev (cs := []) Tryz.func79 mixed (fun junk => by kernel_rfl) k
def F_prisk_Guard_anewT (g : Option Addr) (e : Int) (h : Heap) (K : Value → Heap → Prop) : Prop :=
 Br (e == 0) (withAddr g fun (b o : Nat) => ∃ (a : Option Addr), ∃ (n : Nat), ∃ (m : Nat), Heap.cell h b (o + 3) = some (slice a n m) ∧ L_prisk_Guard_anew_0 g e (↑n : Int) 0 h K) (Ret h K (int IntKind.i64 e))
theorem F_prisk_Guard_anew (g : Option Addr) (e : Int) (h : Heap) (K : Value → Heap → Prop) (k : F_prisk_Guard_anewT g e h K) : CallA Tryz.prog fn_prisk_Guard_anew [pointer g, int IntKind.i64 e] h K :=
 CallA.of_ev (cs := []) Tryz.func79 (by kernel_rfl) (fun _ _ => Tryz.call79 _ _) mixed (by kernel_rfl) (by kernel_rfl) k
def L_risk_New_0 (g : Nat) (t46 : Option Addr) (t46n : Nat) (t46c : Nat) (t47 : Int) (t48 : Int) (h : Heap) (K : Value → Heap → Prop) : Prop :=
 LoopAt Tryz.prog Tryz.f8 8 (loopK Tryz.f8 0) (sp 71 [(13, pointer (some { block := g, off := 0 })), (46, slice t46 t46n t46c), (47, int IntKind.i64 t47), (48, int IntKind.i64 t48)]) h K
def L_risk_New_0T (g : Nat) (t46 : Option Addr) (t46n : Nat) (t46c : Nat) (t47 : Int) (t48 : Int) (h : Heap) (K : Value → Heap → Prop) : Prop :=
 Br (decide (t48 < t47))
 (0 ≤ t48 ∧
 t48 < (↑t46n : Int) ∧
 withAddr t46 fun (b o : Nat) =>
 ∃ (a : Option Addr),
 ∃ (n : Nat),
 ∃ (m : Nat),
 Heap.cell h b (o + Int.toNat t48 * 2) = some (slice a n m) ∧
 ∃ (n_1 : Int),
 Heap.cell h b (o + Int.toNat t48 * 2 + 1) = some (int IntKind.i64 n_1) ∧
 newB h [slice none 0 0, int IntKind.i64 0] 63 fun (r : Nat) (h : Heap) =>
 Heap.canSt h r 0 2 ∧
 ∃ (a_1 : Option Addr),
 ∃ (n_2 : Nat),
 ∃ (m_1 : Nat),
 Heap.cell (Heap.setN h r 0 [slice a n m, int IntKind.i64 n_1]) g 2 = some (slice a_1 n_2 m_1) ∧
 ∃ (a_2 : Option Addr),
 ∃ (n_3 : Nat),
 ∃ (m_2 : Nat),
 Heap.cell (Heap.setN h r 0 [slice a n m, int IntKind.i64 n_1]) r 0 = some (slice a_2 n_3 m_2) ∧
 ∃ (n_4 : Int),
 Heap.cell (Heap.setN h r 0 [slice a n m, int IntKind.i64 n_1]) r 1 = some (int IntKind.i64 n_4) ∧
 CallA Tryz.prog fn_slices_Clone_int64_int64 [slice a_2 n_3 m_2] (Heap.setN h r 0 [slice a n m, int IntKind.i64 n_1]) fun (v : Value) (h_1 : Heap) =>
 ∃ (a_3 : Option Addr),
 ∃ (n_5 : Nat),
 ∃ (m_3 : Nat),
 v = slice a_3 n_5 m_3 ∧
 (Heap.le (Heap.setN h r 0 [slice a n m, int IntKind.i64 n_1]) h_1 ∨ Keeps [g, r] (Heap.setN h r 0 [slice a n m, int IntKind.i64 n_1]) h_1) ∧
 newB h_1 [slice a_3 n_5 m_3, int IntKind.i64 n_4] 63 fun (r : Nat) (h : Heap) =>
 AppA [slice none 0 0, int IntKind.i64 0] 63 h a_1 n_2 m_1 1 (some { block := r, off := 0 }) fun (ap : Option Addr) (cp : Nat) (h : Heap) =>
 Heap.canSt h g 2 1 ∧ L_risk_New_0 g t46 t46n t46c t47 (IntKind.wrap IntKind.i64 (t48 + 1)) (Heap.setN h g 2 [slice ap (n_2 + 1) cp]) K)
 (CallA Tryz.prog fn_prisk_Guard_judge [pointer (some { block := g, off := 0 })] h fun (v : Value) (h : Heap) => v = tuple #[] ∧ Ret h K (tuple #[pointer (some { block := g, off := 0 }), int IntKind.i64 0]))
theorem L_risk_New_0r (g : Nat) (t46 : Option Addr) (t46n : Nat) (t46c : Nat) (t47 : Int) (t48 : Int) (h : Heap) (K : Value → Heap → Prop) (k : L_risk_New_0T g t46 t46n t46c t47 t48 h K) : L_risk_New_0 g t46 t46n t46c t47 t48 h K :=
 LoopAt.of_ev (cs := []) Tryz.func8 mixed (fun junk => by kernel_rfl) k
def F_risk_NewT (t : Option Addr) (tn : Nat) (tc : Nat) (l : Option Addr) (limits : Option Addr) (limitsn : Nat) (limitsc : Nat) (h : Heap) (K : Value → Heap → Prop) : Prop :=
 CallA Tryz.prog fn_worth_New [slice t tn tc, pointer l] h fun (v : Value) (h : Heap) =>
 ∃ (a : Option Addr),
 ∃ (n : Int),
 v = tuple #[pointer a, int IntKind.i64 n] ∧
 Br (n != 0) (Ret h K (tuple #[pointer none, int IntKind.i64 n]))
 (CallA Tryz.prog fn_pledger_Ledger_Size [pointer l] h fun (v : Value) (h : Heap) =>
 ∃ (n : Int),
 ∃ (n_1 : Int),
 v = tuple #[int IntKind.i64 n, int IntKind.i64 n_1] ∧
 newB h [int IntKind.i64 0] 3 fun (r : Nat) (h : Heap) =>
 Heap.canSt h r 0 1 ∧
 Br ((↑limitsn : Int) != n) (Ret (Heap.setN h r 0 [int IntKind.i64 n_1]) K (tuple #[pointer none, int IntKind.i64 1]))
 (CallA Tryz.prog fn_slices_ContainsFunc_api_Limit_api_Limit [slice limits limitsn limitsc, func (Fn.func fn_risk_New_1) #[] #[pointer (some { block := r, off := 0 })]] (Heap.setN h r 0 [int IntKind.i64 n_1]) fun (v : Value) (h : Heap) =>
 ∃ (b : Bool),
 v = Value.bool b ∧
 Br b (Ret h K (tuple #[pointer none, int IntKind.i64 1]))
 (0 ≤ n ∧
 n ≤ n ∧
 n ≤ 281474976710656 ∧
 1 * n ≤ 281474976710656 ∧
 newB h (repL (Int.toNat n) [Value.bool false]) 4 fun (r : Nat) (h : Heap) =>
 newB h [pointer l, pointer a, slice none 0 0, slice (some { block := r, off := 0 }) (Int.toNat n) (Int.toNat n)] 83 fun (r : Nat) (h : Heap) =>
 L_risk_New_0 r limits limitsn limitsc (↑limitsn : Int) 0 h K)))
theorem F_risk_New (t : Option Addr) (tn : Nat) (tc : Nat) (l : Option Addr) (limits : Option Addr) (limitsn : Nat) (limitsc : Nat) (h : Heap) (K : Value → Heap → Prop) (k : F_risk_NewT t tn tc l limits limitsn limitsc h K) : CallA Tryz.prog fn_risk_New [slice t tn tc, pointer l, slice limits limitsn limitsc] h K :=
 CallA.of_ev (cs := []) Tryz.func8 (by kernel_rfl) (fun _ _ => Tryz.call8 _ _) mixed (by kernel_rfl) (by kernel_rfl) k
end Go.Proofs.YtghdadniddoboaaGreat

namespace Go.Proofs.YtghdadniddoboaaGreat
open Go Go.Sy Go.Value
set_option linter.unusedVariables false
set_option maxRecDepth 100000
def F_prisk_Guard_InT (g : Option Addr) (member : Int) (cur : Int) (amount : Int) (h : Heap) (K : Value → Heap → Prop) : Prop :=
 withAddr g fun (b o : Nat) =>
 ∃ (a : Option Addr),
 Heap.cell h b o = some (pointer a) ∧
 CallA Tryz.prog fn_pledger_Ledger_Size [pointer a] h fun (v : Value) (h : Heap) =>
 ∃ (n : Int),
 ∃ (n_1 : Int),
 v = tuple #[int IntKind.i64 n, int IntKind.i64 n_1] ∧
 CallA Tryz.prog fn_prisk_Guard_has [pointer g, int IntKind.i64 member] h fun (v : Value) (h : Heap) =>
 ∃ (b : Bool),
 v = Value.bool b ∧
 Br (!b) (Ret h K (int IntKind.i64 1))
 (Br (decide (cur < 0)) (Ret h K (int IntKind.i64 1))
 (Br (decide (cur ≥ n_1)) (Ret h K (int IntKind.i64 1))
 (Br (decide (amount < 1)) (Ret h K (int IntKind.i64 1))
 (withAddr g fun (b o : Nat) =>
 ∃ (a : Option Addr),
 Heap.cell h b (o + 1) = some (pointer a) ∧
 newB h [int IntKind.i64 member, int IntKind.i64 cur, int IntKind.i64 amount] 65 fun (r : Nat) (h : Heap) =>
 CallA Tryz.prog fn_pworth_Worths_If [pointer a, int IntKind.i64 member, slice (some { block := r, off := 0 }) 1 1] h fun (v : Value) (h : Heap) =>
 ∃ (n : Int),
 ∃ (n_2 : Int),
 ∃ (n_3 : Int),
 v = tuple #[int IntKind.i64 n, int IntKind.i64 n_2, int IntKind.i64 n_3] ∧
 Br (n_3 != 0) (Ret h K (int IntKind.i64 n_3))
 (withAddr g fun (b o : Nat) =>
 ∃ (a : Option Addr),
 Heap.cell h b o = some (pointer a) ∧
 CallA Tryz.prog fn_pledger_Ledger_In [pointer a, int IntKind.i64 member, int IntKind.i64 cur, int IntKind.i64 amount] h fun (v : Value) (h : Heap) =>
 ∃ (n : Int),
 v = int IntKind.i64 n ∧
 Br (n != 0) (Ret h K (int IntKind.i64 n))
 (withAddr g fun (b o : Nat) =>
 ∃ (a : Option Addr),
 Heap.cell h b (o + 1) = some (pointer a) ∧
 CallA Tryz.prog fn_pworth_Worths_Moved [pointer a, int IntKind.i64 member] h fun (v : Value) (h : Heap) =>
 v = tuple #[] ∧
 withAddr g fun (b o : Nat) =>
 ∃ (a : Option Addr),
 ∃ (n : Nat),
 ∃ (m : Nat),
 Heap.cell h b (o + 3) = some (slice a n m) ∧
 withAddr g fun (b_1 o : Nat) =>
 ∃ (a_1 : Option Addr),
 ∃ (n_4 : Nat),
 ∃ (m : Nat),
 Heap.cell h b_1 (o + 3) = some (slice a_1 n_4 m) ∧
 0 ≤ member ∧
 member < (↑n_4 : Int) ∧
 withAddr a_1 fun (b_2 o : Nat) =>
 ∃ (b_3 : Bool),
 Heap.cell h b_2 (o + Int.toNat member) = some (Value.bool b_3) ∧
 Br b_3
 (CallA Tryz.prog fn_prisk_Guard_Fails [pointer g, int IntKind.i64 member, slice none 0 0] h fun (v : Value) (h_1 : Heap) =>
 ∃ (n_5 : Int),
 v = int IntKind.i64 n_5 ∧
 (Heap.le h h_1 ∨ Keeps [b] h h_1) ∧
 0 ≤ member ∧
 member < (↑n : Int) ∧
 withAddr a fun (b o : Nat) =>
 Heap.canSt h_1 b (o + Int.toNat member) 1 ∧
 Ret (Heap.setN h_1 b (o + Int.toNat member) [Value.bool (n_5 != 0)]) K (int IntKind.i64 0))
 (0 ≤ member ∧
 member < (↑n : Int) ∧
 withAddr a fun (b o : Nat) =>
 Heap.canSt h b (o + Int.toNat member) 1 ∧
 Ret (Heap.setN h b (o + Int.toNat member) [Value.bool false]) K (int IntKind.i64 0))))))))
theorem F_prisk_Guard_In (g : Option Addr) (member : Int) (cur : Int) (amount : Int) (h : Heap) (K : Value → Heap → Prop) (k : F_prisk_Guard_InT g member cur amount h K) : CallA Tryz.prog fn_prisk_Guard_In [pointer g, int IntKind.i64 member, int IntKind.i64 cur, int IntKind.i64 amount] h K :=
 CallA.of_ev (cs := []) Tryz.func26 (by kernel_rfl) (fun _ _ => Tryz.call26 _ _) mixed (by kernel_rfl) (by kernel_rfl) k
def F_prisk_Guard_OutT (g : Option Addr) (member : Int) (cur : Int) (amount : Int) (h : Heap) (K : Value → Heap → Prop) : Prop :=
 withAddr g fun (b o : Nat) =>
 ∃ (a : Option Addr),
 Heap.cell h b o = some (pointer a) ∧
 CallA Tryz.prog fn_pledger_Ledger_Size [pointer a] h fun (v : Value) (h : Heap) =>
 ∃ (n : Int),
 ∃ (n_1 : Int),
 v = tuple #[int IntKind.i64 n, int IntKind.i64 n_1] ∧
 CallA Tryz.prog fn_prisk_Guard_has [pointer g, int IntKind.i64 member] h fun (v : Value) (h : Heap) =>
 ∃ (b : Bool),
 v = Value.bool b ∧
 Br (!b) (Ret h K (int IntKind.i64 1))
 (Br (decide (cur < 0)) (Ret h K (int IntKind.i64 1))
 (Br (decide (cur ≥ n_1)) (Ret h K (int IntKind.i64 1))
 (Br (decide (amount < 1)) (Ret h K (int IntKind.i64 1))
 (withAddr g fun (b o : Nat) =>
 ∃ (a : Option Addr),
 ∃ (n : Nat),
 ∃ (m : Nat),
 Heap.cell h b (o + 3) = some (slice a n m) ∧
 0 ≤ member ∧
 member < (↑n : Int) ∧
 withAddr a fun (b o : Nat) =>
 ∃ (b_1 : Bool),
 Heap.cell h b (o + Int.toNat member) = some (Value.bool b_1) ∧
 Br b_1 (Ret h K (int IntKind.i64 10))
 (withAddr g fun (b o : Nat) =>
 ∃ (a : Option Addr),
 Heap.cell h b o = some (pointer a) ∧
 CallA Tryz.prog fn_pledger_Ledger_Get [pointer a, int IntKind.i64 member, int IntKind.i64 cur] h fun (v : Value) (h : Heap) =>
 ∃ (n : Int),
 v = int IntKind.i64 n ∧
 Br (decide (n < amount)) (Ret h K (int IntKind.i64 10))
 (withAddr g fun (b o : Nat) =>
 ∃ (a : Option Addr),
 Heap.cell h b o = some (pointer a) ∧
 CallA Tryz.prog fn_pledger_Ledger_Nostro [pointer a, int IntKind.i64 cur] h fun (v : Value) (h : Heap) =>
 ∃ (n : Int),
 v = int IntKind.i64 n ∧
 Br (decide (n < amount)) (Ret h K (int IntKind.i64 10))
 (newB h [int IntKind.i64 member, int IntKind.i64 cur, int IntKind.i64 (IntKind.wrap IntKind.i64 (0 - amount))] 65 fun (r : Nat) (h : Heap) =>
 CallA Tryz.prog fn_prisk_Guard_Fails [pointer g, int IntKind.i64 member, slice (some { block := r, off := 0 }) 1 1] h fun (v : Value) (h : Heap) =>
 ∃ (n : Int),
 v = int IntKind.i64 n ∧
 Br (n != 0) (Ret h K (int IntKind.i64 10))
 (withAddr g fun (b o : Nat) =>
 ∃ (a : Option Addr),
 Heap.cell h b o = some (pointer a) ∧
 CallA Tryz.prog fn_pledger_Ledger_Out [pointer a, int IntKind.i64 member, int IntKind.i64 cur, int IntKind.i64 amount] h
 fun (v : Value) (h : Heap) =>
 ∃ (n : Int),
 v = int IntKind.i64 n ∧
 withAddr g fun (b o : Nat) =>
 ∃ (a : Option Addr),
 Heap.cell h b (o + 1) = some (pointer a) ∧
 CallA Tryz.prog fn_pworth_Worths_Moved [pointer a, int IntKind.i64 member] h fun (v : Value) (h : Heap) =>
 v = tuple #[] ∧ Ret h K (int IntKind.i64 n)))))))))
theorem F_prisk_Guard_Out (g : Option Addr) (member : Int) (cur : Int) (amount : Int) (h : Heap) (K : Value → Heap → Prop) (k : F_prisk_Guard_OutT g member cur amount h K) : CallA Tryz.prog fn_prisk_Guard_Out [pointer g, int IntKind.i64 member, int IntKind.i64 cur, int IntKind.i64 amount] h K :=
 CallA.of_ev (cs := []) Tryz.func29 (by kernel_rfl) (fun _ _ => Tryz.call29 _ _) mixed (by kernel_rfl) (by kernel_rfl) k
def F_prisk_Guard_RateT (g : Option Addr) (cur : Int) (rate : Int) (h : Heap) (K : Value → Heap → Prop) : Prop :=
 withAddr g fun (b o : Nat) =>
 ∃ (a : Option Addr),
 Heap.cell h b (o + 1) = some (pointer a) ∧
 CallA Tryz.prog fn_pworth_Worths_Rate [pointer a, int IntKind.i64 cur, int IntKind.i64 rate] h fun (v : Value) (h : Heap) =>
 ∃ (n : Int), v = int IntKind.i64 n ∧ Br (n == 0) (CallA Tryz.prog fn_prisk_Guard_judge [pointer g] h fun (v : Value) (h : Heap) => v = tuple #[] ∧ Ret h K (int IntKind.i64 n)) (Ret h K (int IntKind.i64 n))
theorem F_prisk_Guard_Rate (g : Option Addr) (cur : Int) (rate : Int) (h : Heap) (K : Value → Heap → Prop) (k : F_prisk_Guard_RateT g cur rate h K) : CallA Tryz.prog fn_prisk_Guard_Rate [pointer g, int IntKind.i64 cur, int IntKind.i64 rate] h K :=
 CallA.of_ev (cs := []) Tryz.func28 (by kernel_rfl) (fun _ _ => Tryz.call28 _ _) mixed (by kernel_rfl) (by kernel_rfl) k
def F_prisk_Guard_CutT (g : Option Addr) (cur : Int) (cut : Int) (h : Heap) (K : Value → Heap → Prop) : Prop :=
 withAddr g fun (b o : Nat) =>
 ∃ (a : Option Addr),
 Heap.cell h b (o + 1) = some (pointer a) ∧
 CallA Tryz.prog fn_pworth_Worths_Cut [pointer a, int IntKind.i64 cur, int IntKind.i64 cut] h fun (v : Value) (h : Heap) =>
 ∃ (n : Int), v = int IntKind.i64 n ∧ Br (n == 0) (CallA Tryz.prog fn_prisk_Guard_judge [pointer g] h fun (v : Value) (h : Heap) => v = tuple #[] ∧ Ret h K (int IntKind.i64 n)) (Ret h K (int IntKind.i64 n))
theorem F_prisk_Guard_Cut (g : Option Addr) (cur : Int) (cut : Int) (h : Heap) (K : Value → Heap → Prop) (k : F_prisk_Guard_CutT g cur cut h K) : CallA Tryz.prog fn_prisk_Guard_Cut [pointer g, int IntKind.i64 cur, int IntKind.i64 cut] h K :=
 CallA.of_ev (cs := []) Tryz.func41 (by kernel_rfl) (fun _ _ => Tryz.call41 _ _) mixed (by kernel_rfl) (by kernel_rfl) k
def F_prisk_Guard_TakeT (g : Option Addr) (batch : Option Addr) (batchn : Nat) (batchc : Nat) (h : Heap) (K : Value → Heap → Prop) : Prop :=
 withAddr g fun (b o : Nat) =>
 ∃ (a : Option Addr),
 Heap.cell h b o = some (pointer a) ∧
 CallA Tryz.prog fn_pledger_Ledger_Post [pointer a, slice batch batchn batchc] h fun (v : Value) (h : Heap) =>
 ∃ (n : Int), v = int IntKind.i64 n ∧ CallA Tryz.prog fn_prisk_Guard_anew [pointer g, int IntKind.i64 n] h fun (v : Value) (h : Heap) => ∃ (n : Int), v = int IntKind.i64 n ∧ Ret h K (int IntKind.i64 n)
theorem F_prisk_Guard_Take (g : Option Addr) (batch : Option Addr) (batchn : Nat) (batchc : Nat) (h : Heap) (K : Value → Heap → Prop) (k : F_prisk_Guard_TakeT g batch batchn batchc h K) : CallA Tryz.prog fn_prisk_Guard_Take [pointer g, slice batch batchn batchc] h K :=
 CallA.of_ev (cs := []) Tryz.func42 (by kernel_rfl) (fun _ _ => Tryz.call42 _ _) mixed (by kernel_rfl) (by kernel_rfl) k
def F_prisk_Guard_SwapT (g : Option Addr) (member : Int) (get : Int) (give : Int) (got : Int) (given : Int) (h : Heap) (K : Value → Heap → Prop) : Prop :=
 withAddr g fun (b o : Nat) =>
 ∃ (a : Option Addr),
 Heap.cell h b o = some (pointer a) ∧
 CallA Tryz.prog fn_pledger_Ledger_Swap [pointer a, int IntKind.i64 member, int IntKind.i64 get, int IntKind.i64 give, int IntKind.i64 got, int IntKind.i64 given] h fun (v : Value) (h : Heap) =>
 ∃ (n : Int), v = int IntKind.i64 n ∧ CallA Tryz.prog fn_prisk_Guard_anew [pointer g, int IntKind.i64 n] h fun (v : Value) (h : Heap) => ∃ (n : Int), v = int IntKind.i64 n ∧ Ret h K (int IntKind.i64 n)
theorem F_prisk_Guard_Swap (g : Option Addr) (member : Int) (get : Int) (give : Int) (got : Int) (given : Int) (h : Heap) (K : Value → Heap → Prop) (k : F_prisk_Guard_SwapT g member get give got given h K) : CallA Tryz.prog fn_prisk_Guard_Swap [pointer g, int IntKind.i64 member, int IntKind.i64 get, int IntKind.i64 give, int IntKind.i64 got, int IntKind.i64 given] h K :=
 CallA.of_ev (cs := []) Tryz.func43 (by kernel_rfl) (fun _ _ => Tryz.call43 _ _) mixed (by kernel_rfl) (by kernel_rfl) k
def L_prisk_Guard_Book_0 (g : Nat) (e : Int) (t40 : Option Addr) (t40n : Nat) (t40c : Nat) (t41 : Int) (t42 : Int) (h : Heap) (K : Value → Heap → Prop) : Prop :=
 LoopAt Tryz.prog Tryz.f27 27 (loopK Tryz.f27 0) (sp 54 [(2, pointer (some { block := g, off := 0 })), (6, int IntKind.i64 e), (40, slice t40 t40n t40c), (41, int IntKind.i64 t41), (42, int IntKind.i64 t42)]) h K
def L_prisk_Guard_Book_0T (g : Nat) (e : Int) (t40 : Option Addr) (t40n : Nat) (t40c : Nat) (t41 : Int) (t42 : Int) (h : Heap) (K : Value → Heap → Prop) : Prop :=
 Br (decide (t42 < t41))
 (0 ≤ t42 ∧
 t42 < (↑t40n : Int) ∧
 withAddr t40 fun (b o : Nat) =>
 ∃ (n : Int),
 Heap.cell h b (o + Int.toNat t42) = some (int IntKind.i64 n) ∧
 ∃ (a : Option Addr),
 Heap.cell h g 0 = some (pointer a) ∧
 withAddr a fun (b o : Nat) =>
 ∃ (a : Option Addr),
 Heap.cell h b (o + 1) = some (pointer a) ∧
 CallA Tryz.prog fn_pworth_Worths_Moved [pointer a, int IntKind.i64 n] h fun (v : Value) (h : Heap) => v = tuple #[] ∧ L_prisk_Guard_Book_0 g e t40 t40n t40c t41 (IntKind.wrap IntKind.i64 (t42 + 1)) h K)
 (Ret h K (int IntKind.i64 e))
theorem L_prisk_Guard_Book_0r (g : Nat) (e : Int) (t40 : Option Addr) (t40n : Nat) (t40c : Nat) (t41 : Int) (t42 : Int) (h : Heap) (K : Value → Heap → Prop) (k : L_prisk_Guard_Book_0T g e t40 t40n t40c t41 t42 h K) : L_prisk_Guard_Book_0 g e t40 t40n t40c t41 t42 h K :=
 LoopAt.of_ev (cs := []) Tryz.func27 mixed (fun junk => by kernel_rfl) k
def F_prisk_Guard_BookT (g : Option Addr) (batch : Option Addr) (batchn : Nat) (batchc : Nat) (h : Heap) (K : Value → Heap → Prop) : Prop :=
 newB h [pointer g] 35 fun (r : Nat) (h : Heap) =>
 newB h [slice batch batchn batchc] 25 fun (r_1 : Nat) (h : Heap) =>
 ∃ (a : Option Addr),
 Heap.cell h r 0 = some (pointer a) ∧
 withAddr a fun (b o : Nat) =>
 ∃ (a : Option Addr),
 Heap.cell h b o = some (pointer a) ∧
 CallA Tryz.prog fn_pledger_Ledger_Text [pointer a] h fun (v : Value) (h : Heap) =>
 ∃ (s : ByteArray),
 v = string s ∧
 CallA Tryz.prog fn_ledger_Read [string s] h fun (v : Value) (h : Heap) =>
 ∃ (a : Option Addr),
 ∃ (n : Int),
 v = tuple #[pointer a, int IntKind.i64 n] ∧
 Br (n != 0) (Ret h K (int IntKind.i64 n))
 (∃ (a_1 : Option Addr),
 ∃ (n : Nat),
 ∃ (m : Nat),
 Heap.cell h r_1 0 = some (slice a_1 n m) ∧
 CallA Tryz.prog fn_pledger_Ledger_Post [pointer a, slice a_1 n m] h fun (v : Value) (h : Heap) =>
 ∃ (n : Int),
 v = int IntKind.i64 n ∧
 Br (n != 0) (Ret h K (int IntKind.i64 n))
 (∃ (a : Option Addr),
 ∃ (n : Nat),
 ∃ (m : Nat),
 Heap.cell h r_1 0 = some (slice a n m) ∧
 CallA Tryz.prog fn_risk_moved [slice a n m] h fun (v : Value) (h : Heap) =>
 ∃ (a : Option Addr),
 ∃ (n : Nat),
 ∃ (m : Nat),
 v = slice a n m ∧
 CallA Tryz.prog fn_slices_ContainsFunc_int_int [slice a n m, func (Fn.func fn_prisk_Guard_Book_1) #[] #[pointer (some { block := r, off := 0 }), pointer (some { block := r_1, off := 0 })]] h
 fun (v : Value) (h : Heap) =>
 ∃ (b : Bool),
 v = Value.bool b ∧
 Br b (Ret h K (int IntKind.i64 10))
 (∃ (a_2 : Option Addr),
 Heap.cell h r 0 = some (pointer a_2) ∧
 withAddr a_2 fun (b o : Nat) =>
 ∃ (a_3 : Option Addr),
 Heap.cell h b o = some (pointer a_3) ∧
 ∃ (a_4 : Option Addr),
 ∃ (n_1 : Nat),
 ∃ (m_1 : Nat),
 Heap.cell h r_1 0 = some (slice a_4 n_1 m_1) ∧
 CallA Tryz.prog fn_pledger_Ledger_Post [pointer a_3, slice a_4 n_1 m_1] h fun (v : Value) (h : Heap) =>
 ∃ (n_2 : Int), v = int IntKind.i64 n_2 ∧ L_prisk_Guard_Book_0 r n_2 a n m (↑n : Int) 0 h K)))
theorem F_prisk_Guard_Book (g : Option Addr) (batch : Option Addr) (batchn : Nat) (batchc : Nat) (h : Heap) (K : Value → Heap → Prop) (k : F_prisk_Guard_BookT g batch batchn batchc h K) : CallA Tryz.prog fn_prisk_Guard_Book [pointer g, slice batch batchn batchc] h K :=
 CallA.of_ev (cs := []) Tryz.func27 (by kernel_rfl) (fun _ _ => Tryz.call27 _ _) mixed (by kernel_rfl) (by kernel_rfl) k
def F_prisk_Guard_Book_1T (m : Int) (c0 : Nat) (c1 : Nat) (h : Heap) (K : Value → Heap → Prop) : Prop :=
 ∃ (a : Option Addr),
 Heap.cell h c0 0 = some (pointer a) ∧
 withAddr a fun (b o : Nat) =>
 ∃ (a : Option Addr),
 ∃ (n : Nat),
 ∃ (m_1 : Nat),
 Heap.cell h b (o + 3) = some (slice a n m_1) ∧
 0 ≤ m ∧
 m < (↑n : Int) ∧
 withAddr a fun (b o : Nat) =>
 ∃ (b_1 : Bool),
 Heap.cell h b (o + Int.toNat m) = some (Value.bool b_1) ∧
 Br b_1 (Ret h K (Value.bool true))
 (∃ (a : Option Addr),
 Heap.cell h c0 0 = some (pointer a) ∧
 ∃ (a_1 : Option Addr),
 ∃ (n : Nat),
 ∃ (m_2 : Nat),
 Heap.cell h c1 0 = some (slice a_1 n m_2) ∧
 CallA Tryz.prog fn_prisk_Guard_Fails [pointer a, int IntKind.i64 m, slice a_1 n m_2] h fun (v : Value) (h : Heap) => ∃ (n : Int), v = int IntKind.i64 n ∧ Ret h K (Value.bool (n != 0)))
theorem F_prisk_Guard_Book_1 (m : Int) (c0 : Nat) (c1 : Nat) (h : Heap) (K : Value → Heap → Prop) (k : F_prisk_Guard_Book_1T m c0 c1 h K) : CallA Tryz.prog fn_prisk_Guard_Book_1 [int IntKind.i64 m, pointer (some { block := c0, off := 0 }), pointer (some { block := c1, off := 0 })] h K :=
 CallA.of_ev (cs := []) Tryz.func69 (by kernel_rfl) (fun _ _ => Tryz.call69 _ _) mixed (by kernel_rfl) (by kernel_rfl) k
def F_slices_ContainsFunc_int_int_rT (s : Option Addr) (sn : Nat) (sc : Nat) (fr0 : Nat) (fr1 : Nat) (h : Heap) (K : Value → Heap → Prop) : Prop :=
 CallA Tryz.prog fn_slices_IndexFunc_int_int [slice s sn sc, func (Fn.func fn_prisk_Guard_Book_1) #[] #[pointer (some { block := fr0, off := 0 }), pointer (some { block := fr1, off := 0 })]] h fun (v : Value) (h : Heap) =>
 ∃ (n : Int), v = int IntKind.i64 n ∧ Ret h K (Value.bool (decide (n ≥ 0)))
theorem F_slices_ContainsFunc_int_int_r (s : Option Addr) (sn : Nat) (sc : Nat) (fr0 : Nat) (fr1 : Nat) (h : Heap) (K : Value → Heap → Prop) (k : F_slices_ContainsFunc_int_int_rT s sn sc fr0 fr1 h K) : CallA Tryz.prog fn_slices_ContainsFunc_int_int [slice s sn sc, func (Fn.func fn_prisk_Guard_Book_1) #[] #[pointer (some { block := fr0, off := 0 }), pointer (some { block := fr1, off := 0 })]] h K :=
 CallA.of_ev (cs := []) Tryz.func68 (by kernel_rfl) (fun _ _ => Tryz.call68 _ _) mixed (by kernel_rfl) (by kernel_rfl) k
def L_slices_IndexFunc_int_int_r_0 (s : Option Addr) (sn : Nat) (sc : Nat) (f_0 : Nat) (f_1 : Nat) (t7 : Int) (t8 : Int) (h : Heap) (K : Value → Heap → Prop) : Prop :=
 LoopAt Tryz.prog Tryz.f98 98 (loopK Tryz.f98 0) (sp 19 [(0, slice s sn sc), (1, func (Fn.func fn_prisk_Guard_Book_1) #[] #[pointer (some { block := f_0, off := 0 }), pointer (some { block := f_1, off := 0 })]), (7, int IntKind.i64 t7), (8, int IntKind.i64 t8)]) h K
def L_slices_IndexFunc_int_int_r_0T (s : Option Addr) (sn : Nat) (sc : Nat) (f_0 : Nat) (f_1 : Nat) (t7 : Int) (t8 : Int) (h : Heap) (K : Value → Heap → Prop) : Prop :=
 Br (decide (t8 < t7))
 (0 ≤ t8 ∧
 t8 < (↑sn : Int) ∧
 withAddr s fun (b o : Nat) =>
 ∃ (n : Int),
 Heap.cell h b (o + Int.toNat t8) = some (int IntKind.i64 n) ∧
 CallA Tryz.prog fn_prisk_Guard_Book_1 [int IntKind.i64 n, pointer (some { block := f_0, off := 0 }), pointer (some { block := f_1, off := 0 })] h fun (v : Value) (h : Heap) =>
 ∃ (b : Bool), v = Value.bool b ∧ Br b (Ret h K (int IntKind.i64 t8)) (L_slices_IndexFunc_int_int_r_0 s sn sc f_0 f_1 t7 (IntKind.wrap IntKind.i64 (t8 + 1)) h K))
 (Ret h K (int IntKind.i64 (-1)))
theorem L_slices_IndexFunc_int_int_r_0r (s : Option Addr) (sn : Nat) (sc : Nat) (f_0 : Nat) (f_1 : Nat) (t7 : Int) (t8 : Int) (h : Heap) (K : Value → Heap → Prop) (k : L_slices_IndexFunc_int_int_r_0T s sn sc f_0 f_1 t7 t8 h K) : L_slices_IndexFunc_int_int_r_0 s sn sc f_0 f_1 t7 t8 h K :=
 LoopAt.of_ev (cs := []) Tryz.func98 mixed (fun junk => by kernel_rfl) k
def F_slices_IndexFunc_int_int_rT (s : Option Addr) (sn : Nat) (sc : Nat) (fr0 : Nat) (fr1 : Nat) (h : Heap) (K : Value → Heap → Prop) : Prop :=
 L_slices_IndexFunc_int_int_r_0 s sn sc fr0 fr1 (↑sn : Int) 0 h K
theorem F_slices_IndexFunc_int_int_r (s : Option Addr) (sn : Nat) (sc : Nat) (fr0 : Nat) (fr1 : Nat) (h : Heap) (K : Value → Heap → Prop) (k : F_slices_IndexFunc_int_int_rT s sn sc fr0 fr1 h K) : CallA Tryz.prog fn_slices_IndexFunc_int_int [slice s sn sc, func (Fn.func fn_prisk_Guard_Book_1) #[] #[pointer (some { block := fr0, off := 0 }), pointer (some { block := fr1, off := 0 })]] h K :=
 CallA.of_ev (cs := []) Tryz.func98 (by kernel_rfl) (fun _ _ => Tryz.call98 _ _) mixed (by kernel_rfl) (by kernel_rfl) k
end Go.Proofs.YtghdadniddoboaaGreat

namespace Go.Proofs.YtghdadniddoboaaGreat
open Go Go.Sy Go.Value
set_option linter.unusedVariables false
set_option maxRecDepth 100000
def F_law10_awakeT (h : Heap) (K : Value → Heap → Prop) : Prop :=
 newB h [string { data := #[69, 85, 82] }, int IntKind.i64 10000, int IntKind.i64 0, string { data := #[85, 83, 68] }, int IntKind.i64 12500, int IntKind.i64 0] 60 fun (r : Nat) (h : Heap) =>
 CallA Tryz.prog fn_ledger_New [int IntKind.i64 2, int IntKind.i64 2] h fun (v : Value) (h : Heap) =>
 ∃ (a : Option Addr),
 ∃ (n : Int),
 v = tuple #[pointer a, int IntKind.i64 n] ∧
 Br (Option.isNone a) (Ret h K (Value.bool false))
 (newB h [int IntKind.i64 0, int IntKind.i64 100] 2 fun (r_1 : Nat) (h : Heap) =>
 newB h [int IntKind.i64 0, int IntKind.i64 0] 2 fun (r_2 : Nat) (h : Heap) =>
 newB h [slice (some { block := r_1, off := 0 }) 2 2, int IntKind.i64 50, slice (some { block := r_2, off := 0 }) 2 2, int IntKind.i64 0] 63 fun (r_3 : Nat) (h : Heap) =>
 CallA Tryz.prog fn_risk_New [slice (some { block := r, off := 0 }) 2 2, pointer a, slice (some { block := r_3, off := 0 }) 2 2] h fun (v : Value) (h : Heap) =>
 ∃ (a_1 : Option Addr),
 ∃ (n : Int),
 v = tuple #[pointer a_1, int IntKind.i64 n] ∧
 (0 : Int) ≤ 1 ∧
 (1 : Int) ≤ 2 ∧
 CallA Tryz.prog fn_risk_New [slice (some { block := r, off := 0 }) 2 2, pointer a, slice (some { block := r_3, off := 0 }) 1 2] h fun (v : Value) (h : Heap) =>
 ∃ (a_2 : Option Addr),
 ∃ (n_1 : Int),
 v = tuple #[pointer a_2, int IntKind.i64 n_1] ∧
 Br (Option.isNone a_1) (Ret h K (Value.bool false))
 (CallA Tryz.prog fn_prisk_Guard_In [pointer a_1, int IntKind.i64 0, int IntKind.i64 0, int IntKind.i64 100] h fun (v : Value) (h : Heap) =>
 ∃ (n_2 : Int),
 v = int IntKind.i64 n_2 ∧
 CallA Tryz.prog fn_prisk_Guard_In [pointer a_1, int IntKind.i64 1, int IntKind.i64 1, int IntKind.i64 100] h fun (v : Value) (h : Heap) =>
 ∃ (n_3 : Int),
 v = int IntKind.i64 n_3 ∧
 newB h [int IntKind.i64 0, int IntKind.i64 0, int IntKind.i64 (-90), int IntKind.i64 0, int IntKind.i64 1, int IntKind.i64 (-60)] 65 fun (r : Nat) (h : Heap) =>
 CallA Tryz.prog fn_prisk_Guard_Fails [pointer a_1, int IntKind.i64 0, slice (some { block := r, off := 0 }) 2 2] h fun (v : Value) (h : Heap) =>
 ∃ (n_4 : Int),
 v = int IntKind.i64 n_4 ∧
 newB h [int IntKind.i64 0, int IntKind.i64 1, int IntKind.i64 (-40), int IntKind.i64 1, int IntKind.i64 1, int IntKind.i64 40] 65 fun (r : Nat) (h : Heap) =>
 CallA Tryz.prog fn_prisk_Guard_Book [pointer a_1, slice (some { block := r, off := 0 }) 2 2] h fun (v : Value) (h : Heap) =>
 ∃ (n_5 : Int),
 v = int IntKind.i64 n_5 ∧
 newB h [int IntKind.i64 0, int IntKind.i64 1, int IntKind.i64 (-1), int IntKind.i64 1, int IntKind.i64 1, int IntKind.i64 1] 65
 fun (r : Nat) (h : Heap) =>
 CallA Tryz.prog fn_prisk_Guard_Book [pointer a_1, slice (some { block := r, off := 0 }) 2 2] h fun (v : Value) (h : Heap) =>
 ∃ (n_6 : Int),
 v = int IntKind.i64 n_6 ∧
 CallA Tryz.prog fn_prisk_Guard_Rate [pointer a_1, int IntKind.i64 1, int IntKind.i64 12600] h fun (v : Value) (h : Heap) =>
 ∃ (n_7 : Int),
 v = int IntKind.i64 n_7 ∧
 CallA Tryz.prog fn_prisk_Guard_Out [pointer a_1, int IntKind.i64 0, int IntKind.i64 0, int IntKind.i64 1] h fun (v : Value) (h : Heap) =>
 ∃ (n_8 : Int),
 v = int IntKind.i64 n_8 ∧
 CallA Tryz.prog fn_prisk_Guard_Out [pointer a_1, int IntKind.i64 1, int IntKind.i64 1, int IntKind.i64 10] h fun (v : Value) (h : Heap) =>
 ∃ (n_9 : Int),
 v = int IntKind.i64 n_9 ∧
 Br (n == 0)
 (Br (n_1 == 1)
 (Br (n_2 == 0)
 (Br (n_3 == 0)
 (Br (n_4 == 5)
 (Br (n_5 == 0)
 (Br (n_6 == 10)
 (Br (n_7 == 0)
 (CallA Tryz.prog fn_prisk_Guard_Flagged [pointer a_1, int IntKind.i64 0] h fun (v : Value) (h : Heap) =>
 ∃ (b : Bool),
 v = Value.bool b ∧
 Br b
 (CallA Tryz.prog fn_prisk_Guard_Flagged [pointer a_1, int IntKind.i64 1] h fun (v : Value) (h : Heap) =>
 ∃ (b : Bool),
 v = Value.bool b ∧
 Br (!b)
 (CallA Tryz.prog fn_prisk_Guard_Flagged [pointer a_1, int IntKind.i64 2] h fun (v : Value) (h : Heap) =>
 ∃ (b : Bool),
 v = Value.bool b ∧
 Br (!b)
 (Br (n_8 == 10)
 (Br (n_9 == 0)
 (CallA Tryz.prog fn_pledger_Ledger_Get [pointer a, int IntKind.i64 1, int IntKind.i64 1] h
 fun (v : Value) (h : Heap) =>
 ∃ (n : Int), v = int IntKind.i64 n ∧ Ret h K (Value.bool (n == 130)))
 (Ret h K (Value.bool false)))
 (Ret h K (Value.bool false)))
 (Ret h K (Value.bool false)))
 (Ret h K (Value.bool false)))
 (Ret h K (Value.bool false)))
 (Ret h K (Value.bool false)))
 (Ret h K (Value.bool false)))
 (Ret h K (Value.bool false)))
 (Ret h K (Value.bool false)))
 (Ret h K (Value.bool false)))
 (Ret h K (Value.bool false)))
 (Ret h K (Value.bool false)))
 (Ret h K (Value.bool false))))
theorem F_law10_awake (h : Heap) (K : Value → Heap → Prop) (k : F_law10_awakeT h K) : CallA Tryz.prog fn_law10_awake [] h K :=
 CallA.of_ev (cs := []) Tryz.func4 (by kernel_rfl) (fun _ _ => Tryz.call4 _ _) mixed (by kernel_rfl) (by kernel_rfl) k
def L_law10_large_0 (t : Option Addr) (tn : Nat) (tc : Nat) (limits : Option Addr) (limitsn : Nat) (limitsc : Nat) (l : Option Addr) (ln : Nat) (lc : Nat) (t10 : Int) (t11 : Int) (h : Heap) (K : Value → Heap → Prop) : Prop :=
 LoopAt Tryz.prog Tryz.f5 5 (loopK Tryz.f5 0) (sp 48 [(0, slice t tn tc), (1, slice limits limitsn limitsc), (2, slice l ln lc), (10, int IntKind.i64 t10), (11, int IntKind.i64 t11)]) h K
def L_law10_large_1 (t : Option Addr) (tn : Nat) (tc : Nat) (limits : Option Addr) (limitsn : Nat) (limitsc : Nat) (l : Option Addr) (ln : Nat) (lc : Nat) (t23 : Int) (t24 : Int) (h : Heap) (K : Value → Heap → Prop) : Prop :=
 LoopAt Tryz.prog Tryz.f5 5 (loopK Tryz.f5 1) (sp 48 [(0, slice t tn tc), (1, slice limits limitsn limitsc), (2, slice l ln lc), (23, int IntKind.i64 t23), (24, int IntKind.i64 t24)]) h K
def L_law10_large_0T (t : Option Addr) (tn : Nat) (tc : Nat) (limits : Option Addr) (limitsn : Nat) (limitsc : Nat) (l : Option Addr) (ln : Nat) (lc : Nat) (t10 : Int) (t11 : Int) (h : Heap) (K : Value → Heap → Prop) : Prop :=
 Br (decide (t11 < t10))
 (0 ≤ t11 ∧
 t11 < (↑ln : Int) ∧
 withAddr l fun (b o : Nat) =>
 ∃ (a : Option Addr),
 ∃ (n : Nat),
 ∃ (m : Nat),
 Heap.cell h b (o + Int.toNat t11 * 7 + 6) = some (slice a n m) ∧
 Br (decide ((↑n : Int) > 20)) (Ret h K (Value.bool true)) (L_law10_large_0 t tn tc limits limitsn limitsc l ln lc t10 (IntKind.wrap IntKind.i64 (t11 + 1)) h K))
 (L_law10_large_1 t tn tc limits limitsn limitsc l ln lc (↑limitsn : Int) 0 h K)
theorem L_law10_large_0r (t : Option Addr) (tn : Nat) (tc : Nat) (limits : Option Addr) (limitsn : Nat) (limitsc : Nat) (l : Option Addr) (ln : Nat) (lc : Nat) (t10 : Int) (t11 : Int) (h : Heap) (K : Value → Heap → Prop) (k : L_law10_large_0T t tn tc limits limitsn limitsc l ln lc t10 t11 h K) : L_law10_large_0 t tn tc limits limitsn limitsc l ln lc t10 t11 h K :=
 LoopAt.of_ev (cs := []) Tryz.func5 mixed (fun junk => by kernel_rfl) k
def L_law10_large_1T (t : Option Addr) (tn : Nat) (tc : Nat) (limits : Option Addr) (limitsn : Nat) (limitsc : Nat) (l : Option Addr) (ln : Nat) (lc : Nat) (t23 : Int) (t24 : Int) (h : Heap) (K : Value → Heap → Prop) : Prop :=
 Br (decide (t24 < t23))
 (0 ≤ t24 ∧
 t24 < (↑limitsn : Int) ∧
 withAddr limits fun (b o : Nat) =>
 ∃ (a : Option Addr),
 ∃ (n : Nat),
 ∃ (m : Nat),
 Heap.cell h b (o + Int.toNat t24 * 2) = some (slice a n m) ∧
 Br (decide ((↑n : Int) > 20)) (Ret h K (Value.bool true)) (L_law10_large_1 t tn tc limits limitsn limitsc l ln lc t23 (IntKind.wrap IntKind.i64 (t24 + 1)) h K))
 (Br (decide ((↑ln : Int) > 30)) (Ret h K (Value.bool true)) (Br (decide ((↑tn : Int) > 20)) (Ret h K (Value.bool true)) (Ret h K (Value.bool (decide ((↑limitsn : Int) > 20))))))
theorem L_law10_large_1r (t : Option Addr) (tn : Nat) (tc : Nat) (limits : Option Addr) (limitsn : Nat) (limitsc : Nat) (l : Option Addr) (ln : Nat) (lc : Nat) (t23 : Int) (t24 : Int) (h : Heap) (K : Value → Heap → Prop) (k : L_law10_large_1T t tn tc limits limitsn limitsc l ln lc t23 t24 h K) : L_law10_large_1 t tn tc limits limitsn limitsc l ln lc t23 t24 h K :=
 LoopAt.of_ev (cs := []) Tryz.func5 mixed (fun junk => by kernel_rfl) k
def F_law10_largeT (t : Option Addr) (tn : Nat) (tc : Nat) (limits : Option Addr) (limitsn : Nat) (limitsc : Nat) (l : Option Addr) (ln : Nat) (lc : Nat) (h : Heap) (K : Value → Heap → Prop) : Prop :=
 L_law10_large_0 t tn tc limits limitsn limitsc l ln lc (↑ln : Int) 0 h K
theorem F_law10_large (t : Option Addr) (tn : Nat) (tc : Nat) (limits : Option Addr) (limitsn : Nat) (limitsc : Nat) (l : Option Addr) (ln : Nat) (lc : Nat) (h : Heap) (K : Value → Heap → Prop) (k : F_law10_largeT t tn tc limits limitsn limitsc l ln lc h K) : CallA Tryz.prog fn_law10_large [slice t tn tc, slice limits limitsn limitsc, slice l ln lc] h K :=
 CallA.of_ev (cs := []) Tryz.func5 (by kernel_rfl) (fun _ _ => Tryz.call5 _ _) mixed (by kernel_rfl) (by kernel_rfl) k
def F_law10_doT (g : Option Addr) (x_0 : Int) (x_1 : Int) (x_2 : Int) (x_3 : Int) (x_4 : Int) (x_5 : Int) (x_6 : Option Addr) (x_6n : Nat) (x_6c : Nat) (h : Heap) (K : Value → Heap → Prop) : Prop :=
 newB h [int IntKind.i64 x_0, int IntKind.i64 x_1, int IntKind.i64 x_2, int IntKind.i64 x_3, int IntKind.i64 x_4, int IntKind.i64 x_5, slice x_6 x_6n x_6c] 42 fun (r : Nat) (h : Heap) =>
 ∃ (n : Int),
 Heap.cell h r 0 = some (int IntKind.i64 n) ∧
 Br (n == 0)
 (∃ (n : Int),
 Heap.cell h r 1 = some (int IntKind.i64 n) ∧
 ∃ (n_1 : Int),
 Heap.cell h r 2 = some (int IntKind.i64 n_1) ∧
 ∃ (n_2 : Int),
 Heap.cell h r 4 = some (int IntKind.i64 n_2) ∧
 CallA Tryz.prog fn_prisk_Guard_In [pointer g, int IntKind.i64 n, int IntKind.i64 n_1, int IntKind.i64 n_2] h fun (v : Value) (h : Heap) => ∃ (n : Int), v = int IntKind.i64 n ∧ Ret h K (int IntKind.i64 n))
 (Br (n == 1)
 (∃ (n : Int),
 Heap.cell h r 1 = some (int IntKind.i64 n) ∧
 ∃ (n_1 : Int),
 Heap.cell h r 2 = some (int IntKind.i64 n_1) ∧
 ∃ (n_2 : Int),
 Heap.cell h r 4 = some (int IntKind.i64 n_2) ∧
 CallA Tryz.prog fn_prisk_Guard_Out [pointer g, int IntKind.i64 n, int IntKind.i64 n_1, int IntKind.i64 n_2] h fun (v : Value) (h : Heap) => ∃ (n : Int), v = int IntKind.i64 n ∧ Ret h K (int IntKind.i64 n))
 (Br (n == 2)
 (∃ (n : Int),
 Heap.cell h r 2 = some (int IntKind.i64 n) ∧
 ∃ (n_1 : Int),
 Heap.cell h r 4 = some (int IntKind.i64 n_1) ∧
 CallA Tryz.prog fn_prisk_Guard_Rate [pointer g, int IntKind.i64 n, int IntKind.i64 n_1] h fun (v : Value) (h : Heap) => ∃ (n : Int), v = int IntKind.i64 n ∧ Ret h K (int IntKind.i64 n))
 (Br (n == 3)
 (∃ (n : Int),
 Heap.cell h r 2 = some (int IntKind.i64 n) ∧
 ∃ (n_1 : Int),
 Heap.cell h r 4 = some (int IntKind.i64 n_1) ∧
 CallA Tryz.prog fn_prisk_Guard_Cut [pointer g, int IntKind.i64 n, int IntKind.i64 n_1] h fun (v : Value) (h : Heap) => ∃ (n : Int), v = int IntKind.i64 n ∧ Ret h K (int IntKind.i64 n))
 (Br (n == 5)
 (∃ (a : Option Addr),
 ∃ (n : Nat),
 ∃ (m : Nat), Heap.cell h r 6 = some (slice a n m) ∧ CallA Tryz.prog fn_prisk_Guard_Take [pointer g, slice a n m] h fun (v : Value) (h : Heap) => ∃ (n : Int), v = int IntKind.i64 n ∧ Ret h K (int IntKind.i64 n))
 (Br (n == 6)
 (∃ (n : Int),
 Heap.cell h r 1 = some (int IntKind.i64 n) ∧
 ∃ (n_1 : Int),
 Heap.cell h r 2 = some (int IntKind.i64 n_1) ∧
 ∃ (n_2 : Int),
 Heap.cell h r 3 = some (int IntKind.i64 n_2) ∧
 ∃ (n_3 : Int),
 Heap.cell h r 4 = some (int IntKind.i64 n_3) ∧
 ∃ (n_4 : Int),
 Heap.cell h r 5 = some (int IntKind.i64 n_4) ∧
 CallA Tryz.prog fn_prisk_Guard_Swap [pointer g, int IntKind.i64 n, int IntKind.i64 n_1, int IntKind.i64 n_2, int IntKind.i64 n_3, int IntKind.i64 n_4] h fun (v : Value) (h : Heap) =>
 ∃ (n : Int), v = int IntKind.i64 n ∧ Ret h K (int IntKind.i64 n))
 (∃ (a : Option Addr),
 ∃ (n : Nat),
 ∃ (m : Nat),
 Heap.cell h r 6 = some (slice a n m) ∧ CallA Tryz.prog fn_prisk_Guard_Book [pointer g, slice a n m] h fun (v : Value) (h : Heap) => ∃ (n : Int), v = int IntKind.i64 n ∧ Ret h K (int IntKind.i64 n)))))))
theorem F_law10_do (g : Option Addr) (x_0 : Int) (x_1 : Int) (x_2 : Int) (x_3 : Int) (x_4 : Int) (x_5 : Int) (x_6 : Option Addr) (x_6n : Nat) (x_6c : Nat) (h : Heap) (K : Value → Heap → Prop) (k : F_law10_doT g x_0 x_1 x_2 x_3 x_4 x_5 x_6 x_6n x_6c h K) : CallA Tryz.prog fn_law10_do [pointer g, agg #[int IntKind.i64 x_0, int IntKind.i64 x_1, int IntKind.i64 x_2, int IntKind.i64 x_3, int IntKind.i64 x_4, int IntKind.i64 x_5, slice x_6 x_6n x_6c]] h K :=
 CallA.of_ev (cs := []) Tryz.func10 (by kernel_rfl) (fun _ _ => Tryz.call10 _ _) mixed (by kernel_rfl) (by kernel_rfl) k
end Go.Proofs.YtghdadniddoboaaGreat

namespace Go.Proofs.YtghdadniddoboaaGreat
open Go Go.Sy Go.Value
set_option linter.unusedVariables false
set_option maxRecDepth 100000
def L_ref09_Net_0 (t : Option Addr) (tn : Nat) (tc : Nat) (b : Option Addr) (bn : Nat) (bc : Nat) (sum : Int) (c : Int) (h : Heap) (K : Value → Heap → Prop) : Prop :=
 LoopAt Tryz.prog Tryz.f82 82 (loopK Tryz.f82 0) (sp 38 [(0, slice t tn tc), (1, slice b bn bc), (6, int IntKind.i64 sum), (7, int IntKind.i64 c)]) h K
def L_ref09_Net_0T (t : Option Addr) (tn : Nat) (tc : Nat) (b : Option Addr) (bn : Nat) (bc : Nat) (sum : Int) (c : Int) (h : Heap) (K : Value → Heap → Prop) : Prop :=
 Br (decide (c < (↑bn : Int)))
 (0 ≤ c ∧
 c < (↑bn : Int) ∧
 withAddr b fun (b_1 o : Nat) =>
 ∃ (n : Int),
 Heap.cell h b_1 (o + Int.toNat c) = some (int IntKind.i64 n) ∧
 CallA Tryz.prog fn_ref03_Worth [slice t tn tc, int IntKind.i64 c, int IntKind.i64 n] h fun (v : Value) (h : Heap) =>
 ∃ (n : Int),
 ∃ (n_1 : Int),
 v = tuple #[int IntKind.i64 n, int IntKind.i64 n_1] ∧
 Br (n_1 != 0) (Ret h K (tuple #[int IntKind.i64 0, int IntKind.i64 3]))
 (newB h [int IntKind.i64 n] 2 fun (r : Nat) (h : Heap) =>
 CallA Tryz.prog fn_ref01_Chain [int IntKind.i64 sum, slice (some { block := r, off := 0 }) 1 1] h fun (v : Value) (h : Heap) =>
 ∃ (n : Int),
 ∃ (n_2 : Int),
 v = tuple #[int IntKind.i64 n, int IntKind.i64 n_2] ∧
 Br (n_2 != 0) (Ret h K (tuple #[int IntKind.i64 0, int IntKind.i64 3])) (L_ref09_Net_0 t tn tc b bn bc n (IntKind.wrap IntKind.i64 (c + 1)) h K)))
 (Ret h K (tuple #[int IntKind.i64 sum, int IntKind.i64 0]))
theorem L_ref09_Net_0r (t : Option Addr) (tn : Nat) (tc : Nat) (b : Option Addr) (bn : Nat) (bc : Nat) (sum : Int) (c : Int) (h : Heap) (K : Value → Heap → Prop) (k : L_ref09_Net_0T t tn tc b bn bc sum c h K) : L_ref09_Net_0 t tn tc b bn bc sum c h K :=
 LoopAt.of_ev (cs := []) Tryz.func82 mixed (fun junk => by kernel_rfl) k
def F_ref09_NetT (t : Option Addr) (tn : Nat) (tc : Nat) (b : Option Addr) (bn : Nat) (bc : Nat) (h : Heap) (K : Value → Heap → Prop) : Prop :=
 L_ref09_Net_0 t tn tc b bn bc 0 0 h K
theorem F_ref09_Net (t : Option Addr) (tn : Nat) (tc : Nat) (b : Option Addr) (bn : Nat) (bc : Nat) (h : Heap) (K : Value → Heap → Prop) (k : F_ref09_NetT t tn tc b bn bc h K) : CallA Tryz.prog fn_ref09_Net [slice t tn tc, slice b bn bc] h K :=
 CallA.of_ev (cs := []) Tryz.func82 (by kernel_rfl) (fun _ _ => Tryz.call82 _ _) mixed (by kernel_rfl) (by kernel_rfl) k
def L_ref09_Short_0 (t : Option Addr) (tn : Nat) (tc : Nat) (b : Option Addr) (bn : Nat) (bc : Nat) (sum : Int) (c : Int) (h : Heap) (K : Value → Heap → Prop) : Prop :=
 LoopAt Tryz.prog Tryz.f83 83 (loopK Tryz.f83 0) (sp 54 [(0, slice t tn tc), (1, slice b bn bc), (6, int IntKind.i64 sum), (7, int IntKind.i64 c)]) h K
def L_ref09_Short_0T (t : Option Addr) (tn : Nat) (tc : Nat) (b : Option Addr) (bn : Nat) (bc : Nat) (sum : Int) (c : Int) (h : Heap) (K : Value → Heap → Prop) : Prop :=
 Br (decide (c < (↑bn : Int)))
 (0 ≤ c ∧
 c < (↑bn : Int) ∧
 withAddr b fun (b_1 o : Nat) =>
 ∃ (n : Int),
 Heap.cell h b_1 (o + Int.toNat c) = some (int IntKind.i64 n) ∧
 Br (decide (n ≥ 0)) (L_ref09_Short_0 t tn tc b bn bc sum (IntKind.wrap IntKind.i64 (c + 1)) h K)
 (0 ≤ c ∧
 c < (↑bn : Int) ∧
 withAddr b fun (b_2 o : Nat) =>
 ∃ (n : Int),
 Heap.cell h b_2 (o + Int.toNat c) = some (int IntKind.i64 n) ∧
 CallA Tryz.prog fn_ref03_Plain [slice t tn tc, int IntKind.i64 c, int IntKind.i64 n] h fun (v : Value) (h : Heap) =>
 ∃ (n : Int),
 ∃ (n_1 : Int),
 v = tuple #[int IntKind.i64 n, int IntKind.i64 n_1] ∧
 Br (n_1 != 0) (Ret h K (tuple #[int IntKind.i64 0, int IntKind.i64 3]))
 (CallA Tryz.prog fn_ref01_Of [int IntKind.i64 n] h fun (v : Value) (h : Heap) =>
 ∃ (b_3 : Bool),
 ∃ (a : Option Addr),
 ∃ (n : Nat),
 ∃ (m : Nat),
 v = agg #[Value.bool b_3, slice a n m] ∧
 CallA Tryz.prog fn_ref01_Turned [agg #[Value.bool b_3, slice a n m]] h fun (v : Value) (h : Heap) =>
 ∃ (b_4 : Bool),
 ∃ (a : Option Addr),
 ∃ (n : Nat),
 ∃ (m : Nat),
 v = agg #[Value.bool b_4, slice a n m] ∧
 CallA Tryz.prog fn_ref01_Fit [agg #[Value.bool b_4, slice a n m]] h fun (v : Value) (h : Heap) =>
 ∃ (n : Int),
 ∃ (n_2 : Int),
 v = tuple #[int IntKind.i64 n, int IntKind.i64 n_2] ∧
 Br (n_2 != 0) (Ret h K (tuple #[int IntKind.i64 0, int IntKind.i64 3]))
 (newB h [int IntKind.i64 n] 2 fun (r : Nat) (h : Heap) =>
 CallA Tryz.prog fn_ref01_Chain [int IntKind.i64 sum, slice (some { block := r, off := 0 }) 1 1] h fun (v : Value) (h : Heap) =>
 ∃ (n : Int),
 ∃ (n_3 : Int),
 v = tuple #[int IntKind.i64 n, int IntKind.i64 n_3] ∧
 Br (n_3 != 0) (Ret h K (tuple #[int IntKind.i64 0, int IntKind.i64 3])) (L_ref09_Short_0 t tn tc b bn bc n (IntKind.wrap IntKind.i64 (c + 1)) h K)))))
 (Ret h K (tuple #[int IntKind.i64 sum, int IntKind.i64 0]))
theorem L_ref09_Short_0r (t : Option Addr) (tn : Nat) (tc : Nat) (b : Option Addr) (bn : Nat) (bc : Nat) (sum : Int) (c : Int) (h : Heap) (K : Value → Heap → Prop) (k : L_ref09_Short_0T t tn tc b bn bc sum c h K) : L_ref09_Short_0 t tn tc b bn bc sum c h K :=
 LoopAt.of_ev (cs := []) Tryz.func83 mixed (fun junk => by kernel_rfl) k
def F_ref09_ShortT (t : Option Addr) (tn : Nat) (tc : Nat) (b : Option Addr) (bn : Nat) (bc : Nat) (h : Heap) (K : Value → Heap → Prop) : Prop :=
 L_ref09_Short_0 t tn tc b bn bc 0 0 h K
theorem F_ref09_Short (t : Option Addr) (tn : Nat) (tc : Nat) (b : Option Addr) (bn : Nat) (bc : Nat) (h : Heap) (K : Value → Heap → Prop) (k : F_ref09_ShortT t tn tc b bn bc h K) : CallA Tryz.prog fn_ref09_Short [slice t tn tc, slice b bn bc] h K :=
 CallA.of_ev (cs := []) Tryz.func83 (by kernel_rfl) (fun _ _ => Tryz.call83 _ _) mixed (by kernel_rfl) (by kernel_rfl) k
def L_ref09_If_0 (t : Option Addr) (tn : Nat) (tc : Nat) (member : Int) (batch : Option Addr) (batchn : Nat) (batchc : Nat) (l : Option Addr) (ln : Nat) (lc : Nat) (i : Int) (h : Heap) (K : Value → Heap → Prop) : Prop :=
 LoopAt Tryz.prog Tryz.f45 45 (loopK Tryz.f45 0) (sp 99 [(0, slice t tn tc), (2, int IntKind.i64 member), (3, slice batch batchn batchc), (11, slice l ln lc), (12, int IntKind.i64 i)]) h K
def L_ref09_If_1 (t : Option Addr) (tn : Nat) (tc : Nat) (member : Int) (batch : Option Addr) (batchn : Nat) (batchc : Nat) (l : Option Addr) (ln : Nat) (lc : Nat) (i : Int) (h : Heap) (K : Value → Heap → Prop) : Prop :=
 LoopAt Tryz.prog Tryz.f45 45 (loopK Tryz.f45 1) (sp 99 [(0, slice t tn tc), (2, int IntKind.i64 member), (3, slice batch batchn batchc), (11, slice l ln lc), (14, int IntKind.i64 i)]) h K
def L_ref09_If_0T (t : Option Addr) (tn : Nat) (tc : Nat) (member : Int) (batch : Option Addr) (batchn : Nat) (batchc : Nat) (l : Option Addr) (ln : Nat) (lc : Nat) (i : Int) (h : Heap) (K : Value → Heap → Prop) : Prop :=
 Br (decide (i < (↑batchn : Int)))
 (0 ≤ i ∧
 i < (↑batchn : Int) ∧
 withAddr batch fun (b o : Nat) =>
 ∃ (n : Int),
 Heap.cell h b (o + Int.toNat i * 3) = some (int IntKind.i64 n) ∧
 ∃ (n_1 : Int),
 Heap.cell h b (o + Int.toNat i * 3 + 1) = some (int IntKind.i64 n_1) ∧
 ∃ (n_2 : Int),
 Heap.cell h b (o + Int.toNat i * 3 + 2) = some (int IntKind.i64 n_2) ∧
 newB h [int IntKind.i64 0, int IntKind.i64 0, int IntKind.i64 0] 65 fun (r : Nat) (h : Heap) =>
 Heap.canSt h r 0 3 ∧
 ∃ (n_3 : Int),
 Heap.cell (Heap.setN h r 0 [int IntKind.i64 n, int IntKind.i64 n_1, int IntKind.i64 n_2]) r 1 = some (int IntKind.i64 n_3) ∧
 Br (decide (n_3 < 0)) (Ret (Heap.setN h r 0 [int IntKind.i64 n, int IntKind.i64 n_1, int IntKind.i64 n_2]) K (tuple #[int IntKind.i64 0, int IntKind.i64 0, int IntKind.i64 1]))
 (∃ (n_4 : Int),
 Heap.cell (Heap.setN h r 0 [int IntKind.i64 n, int IntKind.i64 n_1, int IntKind.i64 n_2]) r 1 = some (int IntKind.i64 n_4) ∧
 Br (decide (n_4 ≥ (↑ln : Int))) (Ret (Heap.setN h r 0 [int IntKind.i64 n, int IntKind.i64 n_1, int IntKind.i64 n_2]) K (tuple #[int IntKind.i64 0, int IntKind.i64 0, int IntKind.i64 1]))
 (L_ref09_If_0 t tn tc member batch batchn batchc l ln lc (IntKind.wrap IntKind.i64 (i + 1)) (Heap.setN h r 0 [int IntKind.i64 n, int IntKind.i64 n_1, int IntKind.i64 n_2]) K)))
 (L_ref09_If_1 t tn tc member batch batchn batchc l ln lc 0 h K)
theorem L_ref09_If_0r (t : Option Addr) (tn : Nat) (tc : Nat) (member : Int) (batch : Option Addr) (batchn : Nat) (batchc : Nat) (l : Option Addr) (ln : Nat) (lc : Nat) (i : Int) (h : Heap) (K : Value → Heap → Prop) (k : L_ref09_If_0T t tn tc member batch batchn batchc l ln lc i h K) : L_ref09_If_0 t tn tc member batch batchn batchc l ln lc i h K :=
 LoopAt.of_ev (cs := []) Tryz.func45 mixed (fun junk => by kernel_rfl) k
def L_ref09_If_1T (t : Option Addr) (tn : Nat) (tc : Nat) (member : Int) (batch : Option Addr) (batchn : Nat) (batchc : Nat) (l : Option Addr) (ln : Nat) (lc : Nat) (i : Int) (h : Heap) (K : Value → Heap → Prop) : Prop :=
 Br (decide (i < (↑batchn : Int)))
 (0 ≤ i ∧
 i < (↑batchn : Int) ∧
 withAddr batch fun (b o : Nat) =>
 ∃ (n : Int),
 Heap.cell h b (o + Int.toNat i * 3) = some (int IntKind.i64 n) ∧
 ∃ (n_1 : Int),
 Heap.cell h b (o + Int.toNat i * 3 + 1) = some (int IntKind.i64 n_1) ∧
 ∃ (n_2 : Int),
 Heap.cell h b (o + Int.toNat i * 3 + 2) = some (int IntKind.i64 n_2) ∧
 newB h [int IntKind.i64 0, int IntKind.i64 0, int IntKind.i64 0] 65 fun (r : Nat) (h : Heap) =>
 Heap.canSt h r 0 3 ∧
 ∃ (n_3 : Int),
 Heap.cell (Heap.setN h r 0 [int IntKind.i64 n, int IntKind.i64 n_1, int IntKind.i64 n_2]) r 0 = some (int IntKind.i64 n_3) ∧
 Br (n_3 != member) (L_ref09_If_1 t tn tc member batch batchn batchc l ln lc (IntKind.wrap IntKind.i64 (i + 1)) (Heap.setN h r 0 [int IntKind.i64 n, int IntKind.i64 n_1, int IntKind.i64 n_2]) K)
 (∃ (n_4 : Int),
 Heap.cell (Heap.setN h r 0 [int IntKind.i64 n, int IntKind.i64 n_1, int IntKind.i64 n_2]) r 1 = some (int IntKind.i64 n_4) ∧
 0 ≤ n_4 ∧
 n_4 < (↑ln : Int) ∧
 withAddr l fun (b o : Nat) =>
 ∃ (n_5 : Int),
 Heap.cell (Heap.setN h r 0 [int IntKind.i64 n, int IntKind.i64 n_1, int IntKind.i64 n_2]) b (o + Int.toNat n_4) = some (int IntKind.i64 n_5) ∧
 ∃ (n_6 : Int),
 Heap.cell (Heap.setN h r 0 [int IntKind.i64 n, int IntKind.i64 n_1, int IntKind.i64 n_2]) r 2 = some (int IntKind.i64 n_6) ∧
 newB (Heap.setN h r 0 [int IntKind.i64 n, int IntKind.i64 n_1, int IntKind.i64 n_2]) [int IntKind.i64 n_6] 2 fun (r_1 : Nat) (h : Heap) =>
 CallA Tryz.prog fn_ref01_Chain [int IntKind.i64 n_5, slice (some { block := r_1, off := 0 }) 1 1] h fun (v : Value) (h : Heap) =>
 ∃ (n : Int),
 ∃ (n_7 : Int),
 v = tuple #[int IntKind.i64 n, int IntKind.i64 n_7] ∧
 Br (n_7 != 0) (Ret h K (tuple #[int IntKind.i64 0, int IntKind.i64 0, int IntKind.i64 n_7]))
 (∃ (n_8 : Int),
 Heap.cell h r 1 = some (int IntKind.i64 n_8) ∧
 0 ≤ n_8 ∧
 n_8 < (↑ln : Int) ∧
 withAddr l fun (b o : Nat) =>
 Heap.canSt h b (o + Int.toNat n_8) 1 ∧
 L_ref09_If_1 t tn tc member batch batchn batchc l ln lc (IntKind.wrap IntKind.i64 (i + 1)) (Heap.setN h b (o + Int.toNat n_8) [int IntKind.i64 n]) K)))
 (CallA Tryz.prog fn_ref09_Net [slice t tn tc, slice l ln lc] h fun (v : Value) (h : Heap) =>
 ∃ (n : Int),
 ∃ (n_1 : Int),
 v = tuple #[int IntKind.i64 n, int IntKind.i64 n_1] ∧
 CallA Tryz.prog fn_ref09_Short [slice t tn tc, slice l ln lc] h fun (v : Value) (h : Heap) =>
 ∃ (n_2 : Int),
 ∃ (n_3 : Int),
 v = tuple #[int IntKind.i64 n_2, int IntKind.i64 n_3] ∧
 Br (n_1 != 0) (Ret h K (tuple #[int IntKind.i64 0, int IntKind.i64 0, int IntKind.i64 3]))
 (Br (n_3 != 0) (Ret h K (tuple #[int IntKind.i64 0, int IntKind.i64 0, int IntKind.i64 3])) (Ret h K (tuple #[int IntKind.i64 n, int IntKind.i64 n_2, int IntKind.i64 0]))))
theorem L_ref09_If_1r (t : Option Addr) (tn : Nat) (tc : Nat) (member : Int) (batch : Option Addr) (batchn : Nat) (batchc : Nat) (l : Option Addr) (ln : Nat) (lc : Nat) (i : Int) (h : Heap) (K : Value → Heap → Prop) (k : L_ref09_If_1T t tn tc member batch batchn batchc l ln lc i h K) : L_ref09_If_1 t tn tc member batch batchn batchc l ln lc i h K :=
 LoopAt.of_ev (cs := []) Tryz.func45 mixed (fun junk => by kernel_rfl) k
def F_ref09_IfT (t : Option Addr) (tn : Nat) (tc : Nat) (b : Option Addr) (bn : Nat) (bc : Nat) (member : Int) (batch : Option Addr) (batchn : Nat) (batchc : Nat) (h : Heap) (K : Value → Heap → Prop) : Prop :=
 newB h [] 2 fun (r : Nat) (h : Heap) => AppA [int IntKind.i64 0] 2 h (some { block := r, off := 0 }) 0 0 bn b fun (ap : Option Addr) (cp : Nat) (h : Heap) => L_ref09_If_0 t tn tc member batch batchn batchc ap (0 + bn) cp 0 h K
theorem F_ref09_If (t : Option Addr) (tn : Nat) (tc : Nat) (b : Option Addr) (bn : Nat) (bc : Nat) (member : Int) (batch : Option Addr) (batchn : Nat) (batchc : Nat) (h : Heap) (K : Value → Heap → Prop) (k : F_ref09_IfT t tn tc b bn bc member batch batchn batchc h K) : CallA Tryz.prog fn_ref09_If [slice t tn tc, slice b bn bc, int IntKind.i64 member, slice batch batchn batchc] h K :=
 CallA.of_ev (cs := []) Tryz.func45 (by kernel_rfl) (fun _ _ => Tryz.call45 _ _) mixed (by kernel_rfl) (by kernel_rfl) k
end Go.Proofs.YtghdadniddoboaaGreat
