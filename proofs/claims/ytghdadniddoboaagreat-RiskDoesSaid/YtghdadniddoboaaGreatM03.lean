import Derived.Test.YtghdadniddoboaaGreatProg
import Derived.Test.YtghdadniddoboaaGreatM01
namespace Go.Proofs.YtghdadniddoboaaGreat
open Go Go.Sy Go.Value
set_option linter.unusedVariables false
set_option maxRecDepth 100000
theorem mixed : Tryz.prog.follows .mixedOrders = true := by kernel_rfl
abbrev fn_law10_RiskDoes : Nat := 3
abbrev fn_law10_awake : Nat := 4
abbrev fn_law10_large : Nat := 5
abbrev fn_ledger_New : Nat := 6
abbrev fn_ref08_New : Nat := 7
abbrev fn_risk_New : Nat := 8
abbrev fn_ref10_New : Nat := 9
abbrev fn_law10_do : Nat := 10
abbrev fn_pref10_Guard_In : Nat := 11
abbrev fn_pref10_Guard_Out : Nat := 12
abbrev fn_pref10_Guard_Rate : Nat := 13
abbrev fn_pref10_Guard_Cut : Nat := 14
abbrev fn_pref10_Guard_Take : Nat := 15
abbrev fn_pref10_Guard_Swap : Nat := 16
abbrev fn_pref10_Guard_Book : Nat := 17
abbrev fn_pledger_Ledger_Text : Nat := 18
abbrev fn_pref08_Ledger_Text : Nat := 19
abbrev fn_prisk_Guard_Fails : Nat := 20
abbrev fn_pref10_Guard_Fails : Nat := 21
abbrev fn_ref03_Same : Nat := 22
abbrev fn_prisk_Guard_Worths : Nat := 23
abbrev fn_pworth_Worths_Table : Nat := 24
abbrev fn_prisk_Guard_Flagged : Nat := 25
abbrev fn_prisk_Guard_In : Nat := 26
abbrev fn_prisk_Guard_Book : Nat := 27
abbrev fn_prisk_Guard_Rate : Nat := 28
abbrev fn_prisk_Guard_Out : Nat := 29
abbrev fn_pledger_Ledger_Get : Nat := 30
abbrev fn_worth_New : Nat := 31
abbrev fn_pledger_Ledger_Size : Nat := 32
abbrev fn_risk_New_1 : Nat := 33
abbrev fn_risk_fits : Nat := 34
abbrev fn_slices_ContainsFunc_api_Limit_api_Limit : Nat := 35
abbrev fn_slices_Clone_int64_int64 : Nat := 36
abbrev fn_prisk_Guard_judge : Nat := 37
abbrev fn_ref03_Check : Nat := 38
abbrev fn_ref10_Fits : Nat := 39
abbrev fn_pref10_Guard_Judge : Nat := 40
abbrev fn_prisk_Guard_Cut : Nat := 41
abbrev fn_prisk_Guard_Take : Nat := 42
abbrev fn_prisk_Guard_Swap : Nat := 43
abbrev fn_pref08_Ledger_Has : Nat := 44
abbrev fn_ref09_If : Nat := 45
abbrev fn_ref10_one : Nat := 46
abbrev fn_pref08_Ledger_In : Nat := 47
abbrev fn_pref08_Ledger_Out : Nat := 48
abbrev fn_pref10_Guard_turn : Nat := 49
abbrev fn_ref03_With : Nat := 50
abbrev fn_pref08_Ledger_Post : Nat := 51
abbrev fn_pref08_Ledger_Swap : Nat := 52
abbrev fn_pref08_Ledger_Copy : Nat := 53
abbrev fn_pstrings_Builder_WriteByte : Nat := 54
abbrev fn_ledger_lay : Nat := 55
abbrev fn_pstrings_Builder_String : Nat := 56
abbrev fn_ref08_eight : Nat := 57
abbrev fn_prisk_Guard_has : Nat := 58
abbrev fn_money_Add : Nat := 59
abbrev fn_prisk_Guard_sums : Nat := 60
abbrev fn_slices_Clone_api_Currency_api_Currency : Nat := 61
abbrev fn_pworth_Worths_If : Nat := 62
abbrev fn_pledger_Ledger_In : Nat := 63
abbrev fn_pworth_Worths_Moved : Nat := 64
abbrev fn_ledger_Read : Nat := 65
abbrev fn_pledger_Ledger_Post : Nat := 66
abbrev fn_risk_moved : Nat := 67
abbrev fn_slices_ContainsFunc_int_int : Nat := 68
abbrev fn_prisk_Guard_Book_1 : Nat := 69
abbrev fn_pworth_Worths_Rate : Nat := 70
abbrev fn_pledger_Ledger_Nostro : Nat := 71
abbrev fn_pledger_Ledger_Out : Nat := 72
abbrev fn_pledger_Ledger_has : Nat := 73
abbrev fn_table_Check : Nat := 74
abbrev fn_slices_Min_int64_int64 : Nat := 75
abbrev fn_slices_IndexFunc_api_Limit_api_Limit : Nat := 76
abbrev fn_ref03_capital : Nat := 77
abbrev fn_pworth_Worths_Cut : Nat := 78
abbrev fn_prisk_Guard_anew : Nat := 79
abbrev fn_pledger_Ledger_Swap : Nat := 80
abbrev fn_ref01_Chain : Nat := 81
abbrev fn_ref09_Net : Nat := 82
abbrev fn_ref09_Short : Nat := 83
abbrev fn_ref01_Fit : Nat := 84
abbrev fn_ref01_Add : Nat := 85
abbrev fn_ref01_Of : Nat := 86
abbrev fn_ref01_Turned : Nat := 87
abbrev fn_pstrings_Builder_copyCheck : Nat := 88
abbrev fn_pworth_Worths_If_1 : Nat := 89
abbrev fn_pworth_Worths_has : Nat := 90
abbrev fn_slices_ContainsFunc_api_Posting_api_Posting : Nat := 91
abbrev fn_slices_Equal_int64_int64 : Nat := 92
abbrev fn_pworth_Worths_account : Nat := 93
abbrev fn_ledger_Read_1 : Nat := 94
abbrev fn_money_Sum : Nat := 95
abbrev fn_pledger_Ledger_even : Nat := 96
abbrev fn_slices_Contains_int_int : Nat := 97
abbrev fn_slices_IndexFunc_int_int : Nat := 98
abbrev fn_table_WithRate : Nat := 99
abbrev fn_pworth_Worths_turn : Nat := 100
abbrev fn_table_formed : Nat := 101
abbrev fn_table_Find : Nat := 102
abbrev fn_table_fits : Nat := 103
abbrev fn_table_WithCut : Nat := 104
abbrev fn_money_Sub : Nat := 105
abbrev fn_ref03_Worth : Nat := 106
abbrev fn_ref03_Plain : Nat := 107
abbrev fn_ref01_Cmp : Nat := 108
abbrev fn_ref01_digit : Nat := 109
abbrev fn_ref01_trim : Nat := 110
abbrev fn_ref01_larger : Nat := 111
abbrev fn_slices_IndexFunc_api_Posting_api_Posting : Nat := 113
abbrev fn_pworth_Worths_one : Nat := 114
abbrev fn_worth_chain : Nat := 115
abbrev fn_slices_Index_int_int : Nat := 116
abbrev fn_table_has : Nat := 117
abbrev fn_table_with : Nat := 118
abbrev fn_slices_IndexFunc_api_Currency_api_Currency : Nat := 119
abbrev fn_table_Find_1 : Nat := 120
abbrev fn_ref01_Mul : Nat := 121
abbrev fn_ref01_Div : Nat := 122
abbrev fn_ref01_MulDiv : Nat := 123
abbrev fn_table_Worth : Nat := 124
abbrev fn_table_Plain : Nat := 125
abbrev fn_money_MulDiv : Nat := 126
abbrev fn_money_product : Nat := 127
abbrev fn_money_size : Nat := 128
abbrev fn_money_quotient : Nat := 129
abbrev fn_money_signed : Nat := 130
end Go.Proofs.YtghdadniddoboaaGreat

namespace Go.Proofs.YtghdadniddoboaaGreat
open Go Go.Sy Go.Value
set_option linter.unusedVariables false
set_option maxRecDepth 100000
def F_ref01_digitT (a_0 : Bool) (a_1 : Option Addr) (a_1n : Nat) (a_1c : Nat) (i : Int) (h : Heap) (K : Value → Heap → Prop) : Prop :=
 newB h [Value.bool a_0, slice a_1 a_1n a_1c] 126 fun (r : Nat) (h : Heap) =>
 ∃ (a : Option Addr),
 ∃ (n : Nat),
 ∃ (m : Nat),
 Heap.cell h r 1 = some (slice a n m) ∧
 Br (decide (i < (↑n : Int)))
 (∃ (a : Option Addr),
 ∃ (n : Nat),
 ∃ (m : Nat),
 Heap.cell h r 1 = some (slice a n m) ∧ 0 ≤ i ∧ i < (↑n : Int) ∧ withAddr a fun (b o : Nat) => ∃ (n : Int), Heap.cell h b (o + Int.toNat i) = some (int IntKind.i64 n) ∧ Ret h K (int IntKind.i64 n))
 (Ret h K (int IntKind.i64 0))
theorem F_ref01_digit (a_0 : Bool) (a_1 : Option Addr) (a_1n : Nat) (a_1c : Nat) (i : Int) (h : Heap) (K : Value → Heap → Prop) (k : F_ref01_digitT a_0 a_1 a_1n a_1c i h K) : CallA Tryz.prog fn_ref01_digit [agg #[Value.bool a_0, slice a_1 a_1n a_1c], int IntKind.i64 i] h K :=
 CallA.of_ev (cs := []) Tryz.func109 (by kernel_rfl) (fun _ _ => Tryz.call109 _ _) mixed (by kernel_rfl) (by kernel_rfl) k
def L_ref01_trim_0 (a : Nat) (t2 : Nat) (n : Int) (h : Heap) (K : Value → Heap → Prop) : Prop :=
 LoopAt Tryz.prog Tryz.f110 110 (loopK Tryz.f110 0) (sp 30 [(1, pointer (some { block := a, off := 0 })), (2, pointer (some { block := t2, off := 0 })), (3, int IntKind.i64 n)]) h K
def L_ref01_trim_0T (a : Nat) (t2 : Nat) (n : Int) (h : Heap) (K : Value → Heap → Prop) : Prop :=
 Br (decide (n > 0))
 (∃ (a_1 : Option Addr),
 ∃ (n_1 : Nat),
 ∃ (m : Nat),
 Heap.cell h a 1 = some (slice a_1 n_1 m) ∧
 0 ≤ IntKind.wrap IntKind.i64 (n - 1) ∧
 IntKind.wrap IntKind.i64 (n - 1) < (↑n_1 : Int) ∧
 withAddr a_1 fun (b o : Nat) =>
 ∃ (n_2 : Int),
 Heap.cell h b (o + Int.toNat (IntKind.wrap IntKind.i64 (n - 1))) = some (int IntKind.i64 n_2) ∧
 Br (n_2 == 0) (L_ref01_trim_0 a t2 (IntKind.wrap IntKind.i64 (n - 1)) h K)
 (Br (n == 0)
 (Heap.canSt h t2 0 2 ∧
 ∃ (b : Bool),
 Heap.cell (Heap.setN h t2 0 [Value.bool false, slice none 0 0]) t2 0 = some (Value.bool b) ∧
 ∃ (a : Option Addr),
 ∃ (n : Nat),
 ∃ (m : Nat),
 Heap.cell (Heap.setN h t2 0 [Value.bool false, slice none 0 0]) t2 1 = some (slice a n m) ∧
 Ret (Heap.setN h t2 0 [Value.bool false, slice none 0 0]) K (agg #[Value.bool b, slice a n m]))
 (∃ (b : Bool),
 Heap.cell h a 0 = some (Value.bool b) ∧
 ∃ (a_2 : Option Addr),
 ∃ (n_3 : Nat),
 ∃ (m : Nat),
 Heap.cell h a 1 = some (slice a_2 n_3 m) ∧
 0 ≤ n ∧
 n ≤ (↑m : Int) ∧
 Heap.canSt h t2 0 2 ∧
 ∃ (b_1 : Bool),
 Heap.cell (Heap.setN h t2 0 [Value.bool b, slice a_2 (Int.toNat n) m]) t2 0 = some (Value.bool b_1) ∧
 ∃ (a : Option Addr),
 ∃ (n_4 : Nat),
 ∃ (m_1 : Nat),
 Heap.cell (Heap.setN h t2 0 [Value.bool b, slice a_2 (Int.toNat n) m]) t2 1 = some (slice a n_4 m_1) ∧
 Ret (Heap.setN h t2 0 [Value.bool b, slice a_2 (Int.toNat n) m]) K (agg #[Value.bool b_1, slice a n_4 m_1]))))
 (Br (n == 0)
 (Heap.canSt h t2 0 2 ∧
 ∃ (b : Bool),
 Heap.cell (Heap.setN h t2 0 [Value.bool false, slice none 0 0]) t2 0 = some (Value.bool b) ∧
 ∃ (a : Option Addr),
 ∃ (n : Nat),
 ∃ (m : Nat), Heap.cell (Heap.setN h t2 0 [Value.bool false, slice none 0 0]) t2 1 = some (slice a n m) ∧ Ret (Heap.setN h t2 0 [Value.bool false, slice none 0 0]) K (agg #[Value.bool b, slice a n m]))
 (∃ (b : Bool),
 Heap.cell h a 0 = some (Value.bool b) ∧
 ∃ (a_1 : Option Addr),
 ∃ (n_1 : Nat),
 ∃ (m : Nat),
 Heap.cell h a 1 = some (slice a_1 n_1 m) ∧
 0 ≤ n ∧
 n ≤ (↑m : Int) ∧
 Heap.canSt h t2 0 2 ∧
 ∃ (b_1 : Bool),
 Heap.cell (Heap.setN h t2 0 [Value.bool b, slice a_1 (Int.toNat n) m]) t2 0 = some (Value.bool b_1) ∧
 ∃ (a : Option Addr),
 ∃ (n_2 : Nat),
 ∃ (m_1 : Nat),
 Heap.cell (Heap.setN h t2 0 [Value.bool b, slice a_1 (Int.toNat n) m]) t2 1 = some (slice a n_2 m_1) ∧
 Ret (Heap.setN h t2 0 [Value.bool b, slice a_1 (Int.toNat n) m]) K (agg #[Value.bool b_1, slice a n_2 m_1])))
theorem L_ref01_trim_0r (a : Nat) (t2 : Nat) (n : Int) (h : Heap) (K : Value → Heap → Prop) (k : L_ref01_trim_0T a t2 n h K) : L_ref01_trim_0 a t2 n h K :=
 LoopAt.of_ev (cs := []) Tryz.func110 mixed (fun junk => by kernel_rfl) k
def F_ref01_trimT (a_0 : Bool) (a_1 : Option Addr) (a_1n : Nat) (a_1c : Nat) (h : Heap) (K : Value → Heap → Prop) : Prop :=
 newB h [Value.bool a_0, slice a_1 a_1n a_1c] 126 fun (r : Nat) (h : Heap) =>
 newB h [Value.bool false, slice none 0 0] 126 fun (r_1 : Nat) (h : Heap) => ∃ (a : Option Addr), ∃ (n : Nat), ∃ (m : Nat), Heap.cell h r 1 = some (slice a n m) ∧ L_ref01_trim_0 r r_1 (↑n : Int) h K
theorem F_ref01_trim (a_0 : Bool) (a_1 : Option Addr) (a_1n : Nat) (a_1c : Nat) (h : Heap) (K : Value → Heap → Prop) (k : F_ref01_trimT a_0 a_1 a_1n a_1c h K) : CallA Tryz.prog fn_ref01_trim [agg #[Value.bool a_0, slice a_1 a_1n a_1c]] h K :=
 CallA.of_ev (cs := []) Tryz.func110 (by kernel_rfl) (fun _ _ => Tryz.call110 _ _) mixed (by kernel_rfl) (by kernel_rfl) k
def L_ref01_larger_0 (a : Nat) (b : Nat) (i : Int) (h : Heap) (K : Value → Heap → Prop) : Prop :=
 LoopAt Tryz.prog Tryz.f111 111 (loopK Tryz.f111 0) (sp 32 [(2, pointer (some { block := a, off := 0 })), (3, pointer (some { block := b, off := 0 })), (5, int IntKind.i64 i)]) h K
def L_ref01_larger_0T (a : Nat) (b : Nat) (i : Int) (h : Heap) (K : Value → Heap → Prop) : Prop :=
 Br (decide (i ≥ 0))
 (∃ (b_1 : Bool),
 Heap.cell h a 0 = some (Value.bool b_1) ∧
 ∃ (a_1 : Option Addr),
 ∃ (n : Nat),
 ∃ (m : Nat),
 Heap.cell h a 1 = some (slice a_1 n m) ∧
 ∃ (b_2 : Bool),
 Heap.cell h b 0 = some (Value.bool b_2) ∧
 ∃ (a_2 : Option Addr),
 ∃ (n_1 : Nat),
 ∃ (m_1 : Nat),
 Heap.cell h b 1 = some (slice a_2 n_1 m_1) ∧
 CallA Tryz.prog fn_ref01_digit [agg #[Value.bool b_1, slice a_1 n m], int IntKind.i64 i] h fun (v : Value) (h_1 : Heap) =>
 ∃ (n : Int),
 v = int IntKind.i64 n ∧
 (Heap.le h h_1 ∨ Keeps [b] h h_1) ∧
 CallA Tryz.prog fn_ref01_digit [agg #[Value.bool b_2, slice a_2 n_1 m_1], int IntKind.i64 i] h_1 fun (v : Value) (h : Heap) =>
 ∃ (n_2 : Int),
 v = int IntKind.i64 n_2 ∧
 Br (decide (n > n_2)) (Ret h K (int IntKind.i64 1))
 (∃ (b_3 : Bool),
 Heap.cell h a 0 = some (Value.bool b_3) ∧
 ∃ (a_3 : Option Addr),
 ∃ (n : Nat),
 ∃ (m : Nat),
 Heap.cell h a 1 = some (slice a_3 n m) ∧
 ∃ (b_4 : Bool),
 Heap.cell h b 0 = some (Value.bool b_4) ∧
 ∃ (a_4 : Option Addr),
 ∃ (n_3 : Nat),
 ∃ (m_2 : Nat),
 Heap.cell h b 1 = some (slice a_4 n_3 m_2) ∧
 CallA Tryz.prog fn_ref01_digit [agg #[Value.bool b_3, slice a_3 n m], int IntKind.i64 i] h fun (v : Value) (h_2 : Heap) =>
 ∃ (n : Int),
 v = int IntKind.i64 n ∧
 (Heap.le h h_2 ∨ Keeps [b] h h_2) ∧
 CallA Tryz.prog fn_ref01_digit [agg #[Value.bool b_4, slice a_4 n_3 m_2], int IntKind.i64 i] h_2 fun (v : Value) (h : Heap) =>
 ∃ (n_4 : Int),
 v = int IntKind.i64 n_4 ∧ Br (decide (n < n_4)) (Ret h K (int IntKind.i64 (-1))) (L_ref01_larger_0 a b (IntKind.wrap IntKind.i64 (i - 1)) h K)))
 (Ret h K (int IntKind.i64 0))
theorem L_ref01_larger_0r (a : Nat) (b : Nat) (i : Int) (h : Heap) (K : Value → Heap → Prop) (k : L_ref01_larger_0T a b i h K) : L_ref01_larger_0 a b i h K :=
 LoopAt.of_ev (cs := []) Tryz.func111 mixed (fun junk => by kernel_rfl) k
def F_ref01_largerT (a_0 : Bool) (a_1 : Option Addr) (a_1n : Nat) (a_1c : Nat) (b_0 : Bool) (b_1 : Option Addr) (b_1n : Nat) (b_1c : Nat) (h : Heap) (K : Value → Heap → Prop) : Prop :=
 newB h [Value.bool a_0, slice a_1 a_1n a_1c] 126 fun (r : Nat) (h : Heap) =>
 newB h [Value.bool b_0, slice b_1 b_1n b_1c] 126 fun (r_1 : Nat) (h : Heap) =>
 ∃ (a : Option Addr),
 ∃ (n : Nat),
 ∃ (m : Nat),
 Heap.cell h r 1 = some (slice a n m) ∧
 ∃ (a : Option Addr), ∃ (n_1 : Nat), ∃ (m : Nat), Heap.cell h r_1 1 = some (slice a n_1 m) ∧ L_ref01_larger_0 r r_1 (IntKind.wrap IntKind.i64 ((if (↑n_1 : Int) > (↑n : Int) then (↑n_1 : Int) else (↑n : Int)) - 1)) h K
theorem F_ref01_larger (a_0 : Bool) (a_1 : Option Addr) (a_1n : Nat) (a_1c : Nat) (b_0 : Bool) (b_1 : Option Addr) (b_1n : Nat) (b_1c : Nat) (h : Heap) (K : Value → Heap → Prop) (k : F_ref01_largerT a_0 a_1 a_1n a_1c b_0 b_1 b_1n b_1c h K) : CallA Tryz.prog fn_ref01_larger [agg #[Value.bool a_0, slice a_1 a_1n a_1c], agg #[Value.bool b_0, slice b_1 b_1n b_1c]] h K :=
 CallA.of_ev (cs := []) Tryz.func111 (by kernel_rfl) (fun _ _ => Tryz.call111 _ _) mixed (by kernel_rfl) (by kernel_rfl) k
def F_ref01_TurnedT (a_0 : Bool) (a_1 : Option Addr) (a_1n : Nat) (a_1c : Nat) (h : Heap) (K : Value → Heap → Prop) : Prop :=
 newB h [Value.bool a_0, slice a_1 a_1n a_1c] 126 fun (r : Nat) (h : Heap) =>
 newB h [Value.bool false, slice none 0 0] 126 fun (r_1 : Nat) (h : Heap) =>
 ∃ (b : Bool),
 Heap.cell h r 0 = some (Value.bool b) ∧
 ∃ (a : Option Addr),
 ∃ (n : Nat),
 ∃ (m : Nat),
 Heap.cell h r 1 = some (slice a n m) ∧
 CallA Tryz.prog fn_ref01_trim [agg #[Value.bool !b, slice a n m]] h fun (v : Value) (h : Heap) =>
 ∃ (b : Bool),
 ∃ (a : Option Addr),
 ∃ (n : Nat),
 ∃ (m : Nat),
 v = agg #[Value.bool b, slice a n m] ∧
 Heap.canSt h r_1 0 2 ∧
 ∃ (b_1 : Bool),
 Heap.cell (Heap.setN h r_1 0 [Value.bool b, slice a n m]) r_1 0 = some (Value.bool b_1) ∧
 ∃ (a_2 : Option Addr),
 ∃ (n_1 : Nat),
 ∃ (m_1 : Nat),
 Heap.cell (Heap.setN h r_1 0 [Value.bool b, slice a n m]) r_1 1 = some (slice a_2 n_1 m_1) ∧
 Ret (Heap.setN h r_1 0 [Value.bool b, slice a n m]) K (agg #[Value.bool b_1, slice a_2 n_1 m_1])
theorem F_ref01_Turned (a_0 : Bool) (a_1 : Option Addr) (a_1n : Nat) (a_1c : Nat) (h : Heap) (K : Value → Heap → Prop) (k : F_ref01_TurnedT a_0 a_1 a_1n a_1c h K) : CallA Tryz.prog fn_ref01_Turned [agg #[Value.bool a_0, slice a_1 a_1n a_1c]] h K :=
 CallA.of_ev (cs := []) Tryz.func87 (by kernel_rfl) (fun _ _ => Tryz.call87 _ _) mixed (by kernel_rfl) (by kernel_rfl) k
def L_ref01_Of_0 (n : Int) (t2 : Nat) (out : Nat) (h : Heap) (K : Value → Heap → Prop) : Prop :=
 LoopAt Tryz.prog Tryz.f86 86 (loopK Tryz.f86 0) (sp 25 [(0, int IntKind.i64 n), (2, pointer (some { block := t2, off := 0 })), (3, pointer (some { block := out, off := 0 }))]) h K
def L_ref01_Of_0T (n : Int) (t2 : Nat) (out : Nat) (h : Heap) (K : Value → Heap → Prop) : Prop :=
 Br (n != 0)
 (Br (decide (Int.tmod n 10000 < 0))
 (∃ (a : Option Addr),
 ∃ (n_1 : Nat),
 ∃ (m : Nat),
 Heap.cell h out 1 = some (slice a n_1 m) ∧
 newB h [int IntKind.i64 (IntKind.wrap IntKind.i64 (0 - Int.tmod n 10000))] 3 fun (r : Nat) (h : Heap) =>
 AppA [int IntKind.i64 0] 3 h a n_1 m 1 (some { block := r, off := 0 }) fun (ap : Option Addr) (cp : Nat) (h : Heap) =>
 Heap.canSt h out 1 1 ∧ L_ref01_Of_0 (IntKind.wrap IntKind.i64 (Int.tdiv n 10000)) t2 out (Heap.setN h out 1 [slice ap (n_1 + 1) cp]) K)
 (∃ (a : Option Addr),
 ∃ (n_1 : Nat),
 ∃ (m : Nat),
 Heap.cell h out 1 = some (slice a n_1 m) ∧
 newB h [int IntKind.i64 (Int.tmod n 10000)] 3 fun (r : Nat) (h : Heap) =>
 AppA [int IntKind.i64 0] 3 h a n_1 m 1 (some { block := r, off := 0 }) fun (ap : Option Addr) (cp : Nat) (h : Heap) =>
 Heap.canSt h out 1 1 ∧ L_ref01_Of_0 (IntKind.wrap IntKind.i64 (Int.tdiv n 10000)) t2 out (Heap.setN h out 1 [slice ap (n_1 + 1) cp]) K))
 (∃ (b : Bool),
 Heap.cell h out 0 = some (Value.bool b) ∧
 ∃ (a : Option Addr),
 ∃ (n : Nat),
 ∃ (m : Nat),
 Heap.cell h out 1 = some (slice a n m) ∧
 Heap.canSt h t2 0 2 ∧
 ∃ (b_1 : Bool),
 Heap.cell (Heap.setN h t2 0 [Value.bool b, slice a n m]) t2 0 = some (Value.bool b_1) ∧
 ∃ (a_1 : Option Addr),
 ∃ (n_1 : Nat),
 ∃ (m_1 : Nat),
 Heap.cell (Heap.setN h t2 0 [Value.bool b, slice a n m]) t2 1 = some (slice a_1 n_1 m_1) ∧ Ret (Heap.setN h t2 0 [Value.bool b, slice a n m]) K (agg #[Value.bool b_1, slice a_1 n_1 m_1]))
theorem L_ref01_Of_0r (n : Int) (t2 : Nat) (out : Nat) (h : Heap) (K : Value → Heap → Prop) (k : L_ref01_Of_0T n t2 out h K) : L_ref01_Of_0 n t2 out h K :=
 LoopAt.of_ev (cs := []) Tryz.func86 mixed (fun junk => by kernel_rfl) k
def F_ref01_OfT (n : Int) (h : Heap) (K : Value → Heap → Prop) : Prop :=
 newB h [Value.bool false, slice none 0 0] 126 fun (r : Nat) (h : Heap) =>
 newB h [Value.bool false, slice none 0 0] 126 fun (r_1 : Nat) (h : Heap) => Heap.canSt h r_1 0 2 ∧ L_ref01_Of_0 n r r_1 (Heap.setN h r_1 0 [Value.bool (decide (n < 0)), slice none 0 0]) K
theorem F_ref01_Of (n : Int) (h : Heap) (K : Value → Heap → Prop) (k : F_ref01_OfT n h K) : CallA Tryz.prog fn_ref01_Of [int IntKind.i64 n] h K :=
 CallA.of_ev (cs := []) Tryz.func86 (by kernel_rfl) (fun _ _ => Tryz.call86 _ _) mixed (by kernel_rfl) (by kernel_rfl) k
def L_ref01_Fit_0 (a : Nat) (n : Int) (i : Int) (h : Heap) (K : Value → Heap → Prop) : Prop :=
 LoopAt Tryz.prog Tryz.f84 84 (loopK Tryz.f84 0) (sp 43 [(1, pointer (some { block := a, off := 0 })), (4, int IntKind.i64 n), (5, int IntKind.i64 i)]) h K
def L_ref01_Fit_0T (a : Nat) (n : Int) (i : Int) (h : Heap) (K : Value → Heap → Prop) : Prop :=
 Br (decide (i ≥ 0))
 (∃ (b : Bool),
 Heap.cell h a 0 = some (Value.bool b) ∧
 Br b
 (∃ (a_1 : Option Addr),
 ∃ (n_1 : Nat),
 ∃ (m : Nat),
 Heap.cell h a 1 = some (slice a_1 n_1 m) ∧
 0 ≤ i ∧
 i < (↑n_1 : Int) ∧
 withAddr a_1 fun (b o : Nat) =>
 ∃ (n_2 : Int), Heap.cell h b (o + Int.toNat i) = some (int IntKind.i64 n_2) ∧ L_ref01_Fit_0 a (IntKind.wrap IntKind.i64 (IntKind.wrap IntKind.i64 (10000 * n) - n_2)) (IntKind.wrap IntKind.i64 (i - 1)) h K)
 (∃ (a_1 : Option Addr),
 ∃ (n_1 : Nat),
 ∃ (m : Nat),
 Heap.cell h a 1 = some (slice a_1 n_1 m) ∧
 0 ≤ i ∧
 i < (↑n_1 : Int) ∧
 withAddr a_1 fun (b o : Nat) =>
 ∃ (n_2 : Int), Heap.cell h b (o + Int.toNat i) = some (int IntKind.i64 n_2) ∧ L_ref01_Fit_0 a (IntKind.wrap IntKind.i64 (IntKind.wrap IntKind.i64 (10000 * n) + n_2)) (IntKind.wrap IntKind.i64 (i - 1)) h K))
 (Ret h K (tuple #[int IntKind.i64 n, int IntKind.i64 0]))
theorem L_ref01_Fit_0r (a : Nat) (n : Int) (i : Int) (h : Heap) (K : Value → Heap → Prop) (k : L_ref01_Fit_0T a n i h K) : L_ref01_Fit_0 a n i h K :=
 LoopAt.of_ev (cs := []) Tryz.func84 mixed (fun junk => by kernel_rfl) k
def F_ref01_FitT (a_0 : Bool) (a_1 : Option Addr) (a_1n : Nat) (a_1c : Nat) (h : Heap) (K : Value → Heap → Prop) : Prop :=
 newB h [Value.bool a_0, slice a_1 a_1n a_1c] 126 fun (r : Nat) (h : Heap) =>
 ∃ (b : Bool),
 Heap.cell h r 0 = some (Value.bool b) ∧
 ∃ (a : Option Addr),
 ∃ (n : Nat),
 ∃ (m : Nat),
 Heap.cell h r 1 = some (slice a n m) ∧
 CallA Tryz.prog fn_ref01_Of [int IntKind.i64 (-9223372036854775808)] h fun (v : Value) (h_1 : Heap) =>
 ∃ (b_1 : Bool),
 ∃ (a_2 : Option Addr),
 ∃ (n_1 : Nat),
 ∃ (m_1 : Nat),
 v = agg #[Value.bool b_1, slice a_2 n_1 m_1] ∧
 (Heap.le h h_1 ∨ Keeps [r] h h_1) ∧
 CallA Tryz.prog fn_ref01_Cmp [agg #[Value.bool b, slice a n m], agg #[Value.bool b_1, slice a_2 n_1 m_1]] h_1 fun (v : Value) (h : Heap) =>
 ∃ (n : Int),
 v = int IntKind.i64 n ∧
 Br (decide (n < 0)) (Ret h K (tuple #[int IntKind.i64 0, int IntKind.i64 3]))
 (∃ (b : Bool),
 Heap.cell h r 0 = some (Value.bool b) ∧
 ∃ (a : Option Addr),
 ∃ (n : Nat),
 ∃ (m : Nat),
 Heap.cell h r 1 = some (slice a n m) ∧
 CallA Tryz.prog fn_ref01_Of [int IntKind.i64 9223372036854775807] h fun (v : Value) (h_2 : Heap) =>
 ∃ (b_2 : Bool),
 ∃ (a_3 : Option Addr),
 ∃ (n_2 : Nat),
 ∃ (m_2 : Nat),
 v = agg #[Value.bool b_2, slice a_3 n_2 m_2] ∧
 (Heap.le h h_2 ∨ Keeps [r] h h_2) ∧
 CallA Tryz.prog fn_ref01_Cmp [agg #[Value.bool b, slice a n m], agg #[Value.bool b_2, slice a_3 n_2 m_2]] h_2 fun (v : Value) (h : Heap) =>
 ∃ (n : Int),
 v = int IntKind.i64 n ∧
 Br (decide (n > 0)) (Ret h K (tuple #[int IntKind.i64 0, int IntKind.i64 3]))
 (∃ (a : Option Addr), ∃ (n : Nat), ∃ (m : Nat), Heap.cell h r 1 = some (slice a n m) ∧ L_ref01_Fit_0 r 0 (IntKind.wrap IntKind.i64 ((↑n : Int) - 1)) h K))
theorem F_ref01_Fit (a_0 : Bool) (a_1 : Option Addr) (a_1n : Nat) (a_1c : Nat) (h : Heap) (K : Value → Heap → Prop) (k : F_ref01_FitT a_0 a_1 a_1n a_1c h K) : CallA Tryz.prog fn_ref01_Fit [agg #[Value.bool a_0, slice a_1 a_1n a_1c]] h K :=
 CallA.of_ev (cs := []) Tryz.func84 (by kernel_rfl) (fun _ _ => Tryz.call84 _ _) mixed (by kernel_rfl) (by kernel_rfl) k
def F_ref01_CmpT (a_0 : Bool) (a_1 : Option Addr) (a_1n : Nat) (a_1c : Nat) (b_0 : Bool) (b_1 : Option Addr) (b_1n : Nat) (b_1c : Nat) (h : Heap) (K : Value → Heap → Prop) : Prop :=
 newB h [Value.bool a_0, slice a_1 a_1n a_1c] 126 fun (r : Nat) (h : Heap) =>
 newB h [Value.bool b_0, slice b_1 b_1n b_1c] 126 fun (r_1 : Nat) (h : Heap) =>
 ∃ (b : Bool),
 Heap.cell h r 0 = some (Value.bool b) ∧
 ∃ (a : Option Addr),
 ∃ (n : Nat),
 ∃ (m : Nat),
 Heap.cell h r 1 = some (slice a n m) ∧
 ∃ (b_2 : Bool),
 Heap.cell h r_1 0 = some (Value.bool b_2) ∧
 ∃ (a_2 : Option Addr),
 ∃ (n_1 : Nat),
 ∃ (m_1 : Nat),
 Heap.cell h r_1 1 = some (slice a_2 n_1 m_1) ∧
 CallA Tryz.prog fn_ref01_Turned [agg #[Value.bool b_2, slice a_2 n_1 m_1]] h fun (v : Value) (h_1 : Heap) =>
 ∃ (b_3 : Bool),
 ∃ (a_3 : Option Addr),
 ∃ (n_2 : Nat),
 ∃ (m_2 : Nat),
 v = agg #[Value.bool b_3, slice a_3 n_2 m_2] ∧
 (Heap.le h h_1 ∨ Keeps [r] h h_1) ∧
 CallA Tryz.prog fn_ref01_Add [agg #[Value.bool b, slice a n m], agg #[Value.bool b_3, slice a_3 n_2 m_2]] h_1 fun (v : Value) (h : Heap) =>
 ∃ (b : Bool),
 ∃ (a : Option Addr),
 ∃ (n : Nat),
 ∃ (m : Nat),
 v = agg #[Value.bool b, slice a n m] ∧
 newB h [Value.bool false, slice none 0 0] 126 fun (r : Nat) (h : Heap) =>
 Heap.canSt h r 0 2 ∧
 ∃ (a_4 : Option Addr),
 ∃ (n_3 : Nat),
 ∃ (m_3 : Nat),
 Heap.cell (Heap.setN h r 0 [Value.bool b, slice a n m]) r 1 = some (slice a_4 n_3 m_3) ∧
 Br ((↑n_3 : Int) == 0) (Ret (Heap.setN h r 0 [Value.bool b, slice a n m]) K (int IntKind.i64 0))
 (∃ (b_4 : Bool),
 Heap.cell (Heap.setN h r 0 [Value.bool b, slice a n m]) r 0 = some (Value.bool b_4) ∧
 Br b_4 (Ret (Heap.setN h r 0 [Value.bool b, slice a n m]) K (int IntKind.i64 (-1)))
 (Ret (Heap.setN h r 0 [Value.bool b, slice a n m]) K (int IntKind.i64 1)))
theorem F_ref01_Cmp (a_0 : Bool) (a_1 : Option Addr) (a_1n : Nat) (a_1c : Nat) (b_0 : Bool) (b_1 : Option Addr) (b_1n : Nat) (b_1c : Nat) (h : Heap) (K : Value → Heap → Prop) (k : F_ref01_CmpT a_0 a_1 a_1n a_1c b_0 b_1 b_1n b_1c h K) : CallA Tryz.prog fn_ref01_Cmp [agg #[Value.bool a_0, slice a_1 a_1n a_1c], agg #[Value.bool b_0, slice b_1 b_1n b_1c]] h K :=
 CallA.of_ev (cs := []) Tryz.func108 (by kernel_rfl) (fun _ _ => Tryz.call108 _ _) mixed (by kernel_rfl) (by kernel_rfl) k
def L_ref01_Chain_0 (a : Int) (l : Option Addr) (ln : Nat) (lc : Nat) (i : Int) (h : Heap) (K : Value → Heap → Prop) : Prop :=
 LoopAt Tryz.prog Tryz.f81 81 (loopK Tryz.f81 0) (sp 32 [(0, int IntKind.i64 a), (1, slice l ln lc), (6, int IntKind.i64 i)]) h K
def L_ref01_Chain_0T (a : Int) (l : Option Addr) (ln : Nat) (lc : Nat) (i : Int) (h : Heap) (K : Value → Heap → Prop) : Prop :=
 Br (decide (i < (↑ln : Int)))
 (0 ≤ i ∧
 i < (↑ln : Int) ∧
 withAddr l fun (b o : Nat) =>
 ∃ (n : Int),
 Heap.cell h b (o + Int.toNat i) = some (int IntKind.i64 n) ∧
 CallA Tryz.prog fn_ref01_Of [int IntKind.i64 a] h fun (v : Value) (h_1 : Heap) =>
 ∃ (b_1 : Bool),
 ∃ (a : Option Addr),
 ∃ (n_1 : Nat),
 ∃ (m : Nat),
 v = agg #[Value.bool b_1, slice a n_1 m] ∧
 (Heap.le h h_1 ∨ Keeps [b] h h_1) ∧
 CallA Tryz.prog fn_ref01_Of [int IntKind.i64 n] h_1 fun (v : Value) (h : Heap) =>
 ∃ (b : Bool),
 ∃ (a_1 : Option Addr),
 ∃ (n : Nat),
 ∃ (m_1 : Nat),
 v = agg #[Value.bool b, slice a_1 n m_1] ∧
 CallA Tryz.prog fn_ref01_Add [agg #[Value.bool b_1, slice a n_1 m], agg #[Value.bool b, slice a_1 n m_1]] h fun (v : Value) (h : Heap) =>
 ∃ (b : Bool),
 ∃ (a : Option Addr),
 ∃ (n : Nat),
 ∃ (m : Nat),
 v = agg #[Value.bool b, slice a n m] ∧
 CallA Tryz.prog fn_ref01_Fit [agg #[Value.bool b, slice a n m]] h fun (v : Value) (h : Heap) =>
 ∃ (n : Int),
 ∃ (n_2 : Int),
 v = tuple #[int IntKind.i64 n, int IntKind.i64 n_2] ∧
 Br (n_2 != 0) (Ret h K (tuple #[int IntKind.i64 0, int IntKind.i64 n_2])) (L_ref01_Chain_0 n l ln lc (IntKind.wrap IntKind.i64 (i + 1)) h K))
 (Ret h K (tuple #[int IntKind.i64 a, int IntKind.i64 0]))
theorem L_ref01_Chain_0r (a : Int) (l : Option Addr) (ln : Nat) (lc : Nat) (i : Int) (h : Heap) (K : Value → Heap → Prop) (k : L_ref01_Chain_0T a l ln lc i h K) : L_ref01_Chain_0 a l ln lc i h K :=
 LoopAt.of_ev (cs := []) Tryz.func81 mixed (fun junk => by kernel_rfl) k
def F_ref01_ChainT (a : Int) (l : Option Addr) (ln : Nat) (lc : Nat) (h : Heap) (K : Value → Heap → Prop) : Prop :=
 L_ref01_Chain_0 a l ln lc 0 h K
theorem F_ref01_Chain (a : Int) (l : Option Addr) (ln : Nat) (lc : Nat) (h : Heap) (K : Value → Heap → Prop) (k : F_ref01_ChainT a l ln lc h K) : CallA Tryz.prog fn_ref01_Chain [int IntKind.i64 a, slice l ln lc] h K :=
 CallA.of_ev (cs := []) Tryz.func81 (by kernel_rfl) (fun _ _ => Tryz.call81 _ _) mixed (by kernel_rfl) (by kernel_rfl) k
def F_ref01_MulDivT (a : Int) (b : Int) (c : Int) (up : Bool) (h : Heap) (K : Value → Heap → Prop) : Prop :=
 Br (decide (c < 1)) (Ret h K (tuple #[int IntKind.i64 0, int IntKind.i64 1]))
 (CallA Tryz.prog fn_ref01_Of [int IntKind.i64 a] h fun (v : Value) (h : Heap) =>
 ∃ (b_1 : Bool),
 ∃ (a : Option Addr),
 ∃ (n : Nat),
 ∃ (m : Nat),
 v = agg #[Value.bool b_1, slice a n m] ∧
 CallA Tryz.prog fn_ref01_Of [int IntKind.i64 b] h fun (v : Value) (h : Heap) =>
 ∃ (b : Bool),
 ∃ (a_1 : Option Addr),
 ∃ (n_1 : Nat),
 ∃ (m_1 : Nat),
 v = agg #[Value.bool b, slice a_1 n_1 m_1] ∧
 CallA Tryz.prog fn_ref01_Mul [agg #[Value.bool b_1, slice a n m], agg #[Value.bool b, slice a_1 n_1 m_1]] h fun (v : Value) (h : Heap) =>
 ∃ (b : Bool),
 ∃ (a : Option Addr),
 ∃ (n : Nat),
 ∃ (m : Nat),
 v = agg #[Value.bool b, slice a n m] ∧
 CallA Tryz.prog fn_ref01_Of [int IntKind.i64 c] h fun (v : Value) (h : Heap) =>
 ∃ (b_2 : Bool),
 ∃ (a_2 : Option Addr),
 ∃ (n_2 : Nat),
 ∃ (m_2 : Nat),
 v = agg #[Value.bool b_2, slice a_2 n_2 m_2] ∧
 CallA Tryz.prog fn_ref01_Div [agg #[Value.bool b, slice a n m], agg #[Value.bool b_2, slice a_2 n_2 m_2], Value.bool up] h fun (v : Value) (h : Heap) =>
 ∃ (b : Bool),
 ∃ (a : Option Addr),
 ∃ (n : Nat),
 ∃ (m : Nat),
 v = agg #[Value.bool b, slice a n m] ∧
 CallA Tryz.prog fn_ref01_Fit [agg #[Value.bool b, slice a n m]] h fun (v : Value) (h : Heap) =>
 ∃ (n : Int), ∃ (n_3 : Int), v = tuple #[int IntKind.i64 n, int IntKind.i64 n_3] ∧ Ret h K (tuple #[int IntKind.i64 n, int IntKind.i64 n_3]))
theorem F_ref01_MulDiv (a : Int) (b : Int) (c : Int) (up : Bool) (h : Heap) (K : Value → Heap → Prop) (k : F_ref01_MulDivT a b c up h K) : CallA Tryz.prog fn_ref01_MulDiv [int IntKind.i64 a, int IntKind.i64 b, int IntKind.i64 c, Value.bool up] h K :=
 CallA.of_ev (cs := []) Tryz.func123 (by kernel_rfl) (fun _ _ => Tryz.call123 _ _) mixed (by kernel_rfl) (by kernel_rfl) k
end Go.Proofs.YtghdadniddoboaaGreat

namespace Go.Proofs.YtghdadniddoboaaGreat
open Go Go.Sy Go.Value
set_option linter.unusedVariables false
set_option maxRecDepth 100000
def L_ref01_Add_0 (a : Nat) (b : Nat) (t4 : Nat) (out : Nat) (carry : Int) (i : Int) (h : Heap) (K : Value → Heap → Prop) : Prop :=
 LoopAt Tryz.prog Tryz.f85 85 (loopK Tryz.f85 0) (sp 85 [(2, pointer (some { block := a, off := 0 })), (3, pointer (some { block := b, off := 0 })), (4, pointer (some { block := t4, off := 0 })), (5, pointer (some { block := out, off := 0 })), (6, int IntKind.i64 carry),
 (7, int IntKind.i64 i)]) h K
def L_ref01_Add_1 (a : Nat) (b : Nat) (t4 : Nat) (out : Nat) (carry : Int) (i : Int) (h : Heap) (K : Value → Heap → Prop) : Prop :=
 LoopAt Tryz.prog Tryz.f85 85 (loopK Tryz.f85 1) (sp 85 [(2, pointer (some { block := a, off := 0 })), (3, pointer (some { block := b, off := 0 })), (4, pointer (some { block := t4, off := 0 })), (5, pointer (some { block := out, off := 0 })), (6, int IntKind.i64 carry),
 (8, int IntKind.i64 i)]) h K
def L_ref01_Add_0T (a : Nat) (b : Nat) (t4 : Nat) (out : Nat) (carry : Int) (i : Int) (h : Heap) (K : Value → Heap → Prop) : Prop :=
 ∃ (a_1 : Option Addr),
 ∃ (n : Nat),
 ∃ (m : Nat),
 Heap.cell h a 1 = some (slice a_1 n m) ∧
 ∃ (a_2 : Option Addr),
 ∃ (n_1 : Nat),
 ∃ (m : Nat),
 Heap.cell h b 1 = some (slice a_2 n_1 m) ∧
 Br (decide (i < IntKind.wrap IntKind.i64 ((if (↑n_1 : Int) > (↑n : Int) then (↑n_1 : Int) else (↑n : Int)) + 1)))
 (∃ (b_1 : Bool),
 Heap.cell h a 0 = some (Value.bool b_1) ∧
 ∃ (a_3 : Option Addr),
 ∃ (n : Nat),
 ∃ (m : Nat),
 Heap.cell h a 1 = some (slice a_3 n m) ∧
 ∃ (b_2 : Bool),
 Heap.cell h b 0 = some (Value.bool b_2) ∧
 ∃ (a_4 : Option Addr),
 ∃ (n_2 : Nat),
 ∃ (m_1 : Nat),
 Heap.cell h b 1 = some (slice a_4 n_2 m_1) ∧
 CallA Tryz.prog fn_ref01_digit [agg #[Value.bool b_1, slice a_3 n m], int IntKind.i64 i] h fun (v : Value) (h_1 : Heap) =>
 ∃ (n : Int),
 v = int IntKind.i64 n ∧
 (Heap.le h h_1 ∨ Keeps [b] h h_1) ∧
 CallA Tryz.prog fn_ref01_digit [agg #[Value.bool b_2, slice a_4 n_2 m_1], int IntKind.i64 i] h_1 fun (v : Value) (h : Heap) =>
 ∃ (n_3 : Int),
 v = int IntKind.i64 n_3 ∧
 ∃ (a_5 : Option Addr),
 ∃ (n_4 : Nat),
 ∃ (m : Nat),
 Heap.cell h out 1 = some (slice a_5 n_4 m) ∧
 newB h [int IntKind.i64 (Int.tmod (IntKind.wrap IntKind.i64 (IntKind.wrap IntKind.i64 (carry + n) + n_3)) 10000)] 3 fun (r : Nat) (h : Heap) =>
 AppA [int IntKind.i64 0] 3 h a_5 n_4 m 1 (some { block := r, off := 0 }) fun (ap : Option Addr) (cp : Nat) (h : Heap) =>
 Heap.canSt h out 1 1 ∧
 L_ref01_Add_0 a b t4 out (IntKind.wrap IntKind.i64 (Int.tdiv (IntKind.wrap IntKind.i64 (IntKind.wrap IntKind.i64 (carry + n) + n_3)) 10000))
 (IntKind.wrap IntKind.i64 (i + 1)) (Heap.setN h out 1 [slice ap (n_4 + 1) cp]) K)
 (∃ (b : Bool),
 Heap.cell h out 0 = some (Value.bool b) ∧
 ∃ (a : Option Addr),
 ∃ (n : Nat),
 ∃ (m : Nat),
 Heap.cell h out 1 = some (slice a n m) ∧
 CallA Tryz.prog fn_ref01_trim [agg #[Value.bool b, slice a n m]] h fun (v : Value) (h : Heap) =>
 ∃ (b : Bool),
 ∃ (a : Option Addr),
 ∃ (n : Nat),
 ∃ (m : Nat),
 v = agg #[Value.bool b, slice a n m] ∧
 Heap.canSt h t4 0 2 ∧
 ∃ (b_1 : Bool),
 Heap.cell (Heap.setN h t4 0 [Value.bool b, slice a n m]) t4 0 = some (Value.bool b_1) ∧
 ∃ (a_3 : Option Addr),
 ∃ (n_2 : Nat),
 ∃ (m_1 : Nat),
 Heap.cell (Heap.setN h t4 0 [Value.bool b, slice a n m]) t4 1 = some (slice a_3 n_2 m_1) ∧
 Ret (Heap.setN h t4 0 [Value.bool b, slice a n m]) K (agg #[Value.bool b_1, slice a_3 n_2 m_1]))
theorem L_ref01_Add_0r (a : Nat) (b : Nat) (t4 : Nat) (out : Nat) (carry : Int) (i : Int) (h : Heap) (K : Value → Heap → Prop) (k : L_ref01_Add_0T a b t4 out carry i h K) : L_ref01_Add_0 a b t4 out carry i h K :=
 LoopAt.of_ev (cs := []) Tryz.func85 mixed (fun junk => by kernel_rfl) k
def L_ref01_Add_1T (a : Nat) (b : Nat) (t4 : Nat) (out : Nat) (carry : Int) (i : Int) (h : Heap) (K : Value → Heap → Prop) : Prop :=
 ∃ (a_1 : Option Addr),
 ∃ (n : Nat),
 ∃ (m : Nat),
 Heap.cell h a 1 = some (slice a_1 n m) ∧
 Br (decide (i < (↑n : Int)))
 (∃ (b_1 : Bool),
 Heap.cell h a 0 = some (Value.bool b_1) ∧
 ∃ (a_2 : Option Addr),
 ∃ (n : Nat),
 ∃ (m : Nat),
 Heap.cell h a 1 = some (slice a_2 n m) ∧
 ∃ (b_2 : Bool),
 Heap.cell h b 0 = some (Value.bool b_2) ∧
 ∃ (a_3 : Option Addr),
 ∃ (n_1 : Nat),
 ∃ (m_1 : Nat),
 Heap.cell h b 1 = some (slice a_3 n_1 m_1) ∧
 CallA Tryz.prog fn_ref01_digit [agg #[Value.bool b_1, slice a_2 n m], int IntKind.i64 i] h fun (v : Value) (h_1 : Heap) =>
 ∃ (n : Int),
 v = int IntKind.i64 n ∧
 (Heap.le h h_1 ∨ Keeps [b] h h_1) ∧
 CallA Tryz.prog fn_ref01_digit [agg #[Value.bool b_2, slice a_3 n_1 m_1], int IntKind.i64 i] h_1 fun (v : Value) (h : Heap) =>
 ∃ (n_2 : Int),
 v = int IntKind.i64 n_2 ∧
 Br (decide (IntKind.wrap IntKind.i64 (IntKind.wrap IntKind.i64 (n - n_2) - carry) < 0))
 (∃ (a_4 : Option Addr),
 ∃ (n_3 : Nat),
 ∃ (m : Nat),
 Heap.cell h out 1 = some (slice a_4 n_3 m) ∧
 newB h [int IntKind.i64 (IntKind.wrap IntKind.i64 (IntKind.wrap IntKind.i64 (IntKind.wrap IntKind.i64 (n - n_2) - carry) + 10000))] 3 fun (r : Nat) (h : Heap) =>
 AppA [int IntKind.i64 0] 3 h a_4 n_3 m 1 (some { block := r, off := 0 }) fun (ap : Option Addr) (cp : Nat) (h : Heap) =>
 Heap.canSt h out 1 1 ∧ L_ref01_Add_1 a b t4 out 1 (IntKind.wrap IntKind.i64 (i + 1)) (Heap.setN h out 1 [slice ap (n_3 + 1) cp]) K)
 (∃ (a_4 : Option Addr),
 ∃ (n_3 : Nat),
 ∃ (m : Nat),
 Heap.cell h out 1 = some (slice a_4 n_3 m) ∧
 newB h [int IntKind.i64 (IntKind.wrap IntKind.i64 (IntKind.wrap IntKind.i64 (n - n_2) - carry))] 3 fun (r : Nat) (h : Heap) =>
 AppA [int IntKind.i64 0] 3 h a_4 n_3 m 1 (some { block := r, off := 0 }) fun (ap : Option Addr) (cp : Nat) (h : Heap) =>
 Heap.canSt h out 1 1 ∧ L_ref01_Add_1 a b t4 out 0 (IntKind.wrap IntKind.i64 (i + 1)) (Heap.setN h out 1 [slice ap (n_3 + 1) cp]) K))
 (∃ (b : Bool),
 Heap.cell h out 0 = some (Value.bool b) ∧
 ∃ (a : Option Addr),
 ∃ (n : Nat),
 ∃ (m : Nat),
 Heap.cell h out 1 = some (slice a n m) ∧
 CallA Tryz.prog fn_ref01_trim [agg #[Value.bool b, slice a n m]] h fun (v : Value) (h : Heap) =>
 ∃ (b : Bool),
 ∃ (a : Option Addr),
 ∃ (n : Nat),
 ∃ (m : Nat),
 v = agg #[Value.bool b, slice a n m] ∧
 Heap.canSt h t4 0 2 ∧
 ∃ (b_1 : Bool),
 Heap.cell (Heap.setN h t4 0 [Value.bool b, slice a n m]) t4 0 = some (Value.bool b_1) ∧
 ∃ (a_2 : Option Addr),
 ∃ (n_1 : Nat),
 ∃ (m_1 : Nat),
 Heap.cell (Heap.setN h t4 0 [Value.bool b, slice a n m]) t4 1 = some (slice a_2 n_1 m_1) ∧
 Ret (Heap.setN h t4 0 [Value.bool b, slice a n m]) K (agg #[Value.bool b_1, slice a_2 n_1 m_1]))
theorem L_ref01_Add_1r (a : Nat) (b : Nat) (t4 : Nat) (out : Nat) (carry : Int) (i : Int) (h : Heap) (K : Value → Heap → Prop) (k : L_ref01_Add_1T a b t4 out carry i h K) : L_ref01_Add_1 a b t4 out carry i h K :=
 LoopAt.of_ev (cs := []) Tryz.func85 mixed (fun junk => by kernel_rfl) k
def F_ref01_AddT (a_0 : Bool) (a_1 : Option Addr) (a_1n : Nat) (a_1c : Nat) (b_0 : Bool) (b_1 : Option Addr) (b_1n : Nat) (b_1c : Nat) (h : Heap) (K : Value → Heap → Prop) : Prop :=
 newB h [Value.bool a_0, slice a_1 a_1n a_1c] 126 fun (r : Nat) (h : Heap) =>
 newB h [Value.bool b_0, slice b_1 b_1n b_1c] 126 fun (r_1 : Nat) (h : Heap) =>
 newB h [Value.bool false, slice none 0 0] 126 fun (r_2 : Nat) (h : Heap) =>
 ∃ (b : Bool),
 Heap.cell h r 0 = some (Value.bool b) ∧
 newB h [Value.bool false, slice none 0 0] 126 fun (r_3 : Nat) (h : Heap) =>
 Heap.canSt h r_3 0 2 ∧
 ∃ (b_2 : Bool),
 Heap.cell (Heap.setN h r_3 0 [Value.bool b, slice none 0 0]) r 0 = some (Value.bool b_2) ∧
 ∃ (b_3 : Bool),
 Heap.cell (Heap.setN h r_3 0 [Value.bool b, slice none 0 0]) r_1 0 = some (Value.bool b_3) ∧
 Br (b_2 == b_3) (L_ref01_Add_0 r r_1 r_2 r_3 0 0 (Heap.setN h r_3 0 [Value.bool b, slice none 0 0]) K)
 (∃ (b_4 : Bool),
 Heap.cell (Heap.setN h r_3 0 [Value.bool b, slice none 0 0]) r 0 = some (Value.bool b_4) ∧
 ∃ (a : Option Addr),
 ∃ (n : Nat),
 ∃ (m : Nat),
 Heap.cell (Heap.setN h r_3 0 [Value.bool b, slice none 0 0]) r 1 = some (slice a n m) ∧
 ∃ (b_5 : Bool),
 Heap.cell (Heap.setN h r_3 0 [Value.bool b, slice none 0 0]) r_1 0 = some (Value.bool b_5) ∧
 ∃ (a_2 : Option Addr),
 ∃ (n_1 : Nat),
 ∃ (m_1 : Nat),
 Heap.cell (Heap.setN h r_3 0 [Value.bool b, slice none 0 0]) r_1 1 = some (slice a_2 n_1 m_1) ∧
 CallA Tryz.prog fn_ref01_larger [agg #[Value.bool b_4, slice a n m], agg #[Value.bool b_5, slice a_2 n_1 m_1]] (Heap.setN h r_3 0 [Value.bool b, slice none 0 0])
 fun (v : Value) (h : Heap) =>
 ∃ (n : Int),
 v = int IntKind.i64 n ∧
 Br (decide (n < 0))
 (∃ (b : Bool),
 Heap.cell h r_1 0 = some (Value.bool b) ∧
 ∃ (a : Option Addr),
 ∃ (n : Nat),
 ∃ (m : Nat),
 Heap.cell h r_1 1 = some (slice a n m) ∧
 ∃ (b_6 : Bool),
 Heap.cell h r 0 = some (Value.bool b_6) ∧
 ∃ (a_3 : Option Addr),
 ∃ (n_2 : Nat),
 ∃ (m_2 : Nat),
 Heap.cell h r 1 = some (slice a_3 n_2 m_2) ∧
 CallA Tryz.prog fn_ref01_Add [agg #[Value.bool b, slice a n m], agg #[Value.bool b_6, slice a_3 n_2 m_2]] h fun (v : Value) (h : Heap) =>
 ∃ (b : Bool),
 ∃ (a : Option Addr),
 ∃ (n : Nat),
 ∃ (m : Nat),
 v = agg #[Value.bool b, slice a n m] ∧
 Heap.canSt h r_2 0 2 ∧
 ∃ (b_7 : Bool),
 Heap.cell (Heap.setN h r_2 0 [Value.bool b, slice a n m]) r_2 0 = some (Value.bool b_7) ∧
 ∃ (a_4 : Option Addr),
 ∃ (n_3 : Nat),
 ∃ (m_3 : Nat),
 Heap.cell (Heap.setN h r_2 0 [Value.bool b, slice a n m]) r_2 1 = some (slice a_4 n_3 m_3) ∧
 Ret (Heap.setN h r_2 0 [Value.bool b, slice a n m]) K (agg #[Value.bool b_7, slice a_4 n_3 m_3]))
 (L_ref01_Add_1 r r_1 r_2 r_3 0 0 h K))
theorem F_ref01_Add (a_0 : Bool) (a_1 : Option Addr) (a_1n : Nat) (a_1c : Nat) (b_0 : Bool) (b_1 : Option Addr) (b_1n : Nat) (b_1c : Nat) (h : Heap) (K : Value → Heap → Prop) (k : F_ref01_AddT a_0 a_1 a_1n a_1c b_0 b_1 b_1n b_1c h K) : CallA Tryz.prog fn_ref01_Add [agg #[Value.bool a_0, slice a_1 a_1n a_1c], agg #[Value.bool b_0, slice b_1 b_1n b_1c]] h K :=
 CallA.of_ev (cs := []) Tryz.func85 (by kernel_rfl) (fun _ _ => Tryz.call85 _ _) mixed (by kernel_rfl) (by kernel_rfl) k
end Go.Proofs.YtghdadniddoboaaGreat

namespace Go.Proofs.YtghdadniddoboaaGreat
open Go Go.Sy Go.Value
set_option linter.unusedVariables false
set_option maxRecDepth 100000
def F_money_AddT (a : Int) (b : Int) (h : Heap) (K : Value → Heap → Prop) : Prop :=
 Br (decide (a < 0) == decide (b < 0))
 (Br (!decide (IntKind.wrap IntKind.i64 (a + b) < 0) == decide (a < 0)) (Ret h K (tuple #[int IntKind.i64 0, int IntKind.i64 3]))
 (Ret h K (tuple #[int IntKind.i64 (IntKind.wrap IntKind.i64 (a + b)), int IntKind.i64 0])))
 (Ret h K (tuple #[int IntKind.i64 (IntKind.wrap IntKind.i64 (a + b)), int IntKind.i64 0]))
theorem F_money_Add (a : Int) (b : Int) (h : Heap) (K : Value → Heap → Prop) (k : F_money_AddT a b h K) : CallA Tryz.prog fn_money_Add [int IntKind.i64 a, int IntKind.i64 b] h K :=
 CallA.of_ev (cs := []) Tryz.func59 (by kernel_rfl) (fun _ _ => Tryz.call59 _ _) mixed (by kernel_rfl) (by kernel_rfl) k
def F_money_SubT (a : Int) (b : Int) (h : Heap) (K : Value → Heap → Prop) : Prop :=
 Br (!decide (a < 0) == decide (b < 0))
 (Br (!decide (IntKind.wrap IntKind.i64 (a - b) < 0) == decide (a < 0)) (Ret h K (tuple #[int IntKind.i64 0, int IntKind.i64 3]))
 (Ret h K (tuple #[int IntKind.i64 (IntKind.wrap IntKind.i64 (a - b)), int IntKind.i64 0])))
 (Ret h K (tuple #[int IntKind.i64 (IntKind.wrap IntKind.i64 (a - b)), int IntKind.i64 0]))
theorem F_money_Sub (a : Int) (b : Int) (h : Heap) (K : Value → Heap → Prop) (k : F_money_SubT a b h K) : CallA Tryz.prog fn_money_Sub [int IntKind.i64 a, int IntKind.i64 b] h K :=
 CallA.of_ev (cs := []) Tryz.func105 (by kernel_rfl) (fun _ _ => Tryz.call105 _ _) mixed (by kernel_rfl) (by kernel_rfl) k
def F_money_MulDivT (a : Int) (b : Int) (c : Int) (up : Bool) (h : Heap) (K : Value → Heap → Prop) : Prop :=
 Br (decide (c < 1)) (Ret h K (tuple #[int IntKind.i64 0, int IntKind.i64 1]))
 (CallA Tryz.prog fn_money_size [int IntKind.i64 a] h fun (v : Value) (h : Heap) =>
 ∃ (n : Int),
 v = int IntKind.u64 n ∧
 CallA Tryz.prog fn_money_size [int IntKind.i64 b] h fun (v : Value) (h : Heap) =>
 ∃ (n_1 : Int),
 v = int IntKind.u64 n_1 ∧
 CallA Tryz.prog fn_money_product [int IntKind.u64 n, int IntKind.u64 n_1] h fun (v : Value) (h : Heap) =>
 ∃ (n : Int),
 ∃ (n_2 : Int),
 v = tuple #[int IntKind.u64 n, int IntKind.u64 n_2] ∧
 CallA Tryz.prog fn_money_quotient [int IntKind.u64 n, int IntKind.u64 n_2, int IntKind.u64 (IntKind.wrap IntKind.u64 c)] h fun (v : Value) (h : Heap) =>
 ∃ (n : Int),
 ∃ (b_1 : Bool),
 ∃ (b_2 : Bool),
 v = tuple #[int IntKind.u64 n, Value.bool b_1, Value.bool b_2] ∧
 Br (!b_2) (Ret h K (tuple #[int IntKind.i64 0, int IntKind.i64 3]))
 (Br b_1
 (Br (!(!decide (a < 0) == decide (b < 0)) == up)
 (Br (IntKind.wrap IntKind.u64 (n + 1) == 0) (Ret h K (tuple #[int IntKind.i64 0, int IntKind.i64 3]))
 (CallA Tryz.prog fn_money_signed [int IntKind.u64 (IntKind.wrap IntKind.u64 (n + 1)), Value.bool !decide (a < 0) == decide (b < 0)] h fun (v : Value) (h : Heap) =>
 ∃ (n : Int), ∃ (n_3 : Int), v = tuple #[int IntKind.i64 n, int IntKind.i64 n_3] ∧ Ret h K (tuple #[int IntKind.i64 n, int IntKind.i64 n_3])))
 (CallA Tryz.prog fn_money_signed [int IntKind.u64 n, Value.bool !decide (a < 0) == decide (b < 0)] h fun (v : Value) (h : Heap) =>
 ∃ (n : Int), ∃ (n_3 : Int), v = tuple #[int IntKind.i64 n, int IntKind.i64 n_3] ∧ Ret h K (tuple #[int IntKind.i64 n, int IntKind.i64 n_3])))
 (CallA Tryz.prog fn_money_signed [int IntKind.u64 n, Value.bool !decide (a < 0) == decide (b < 0)] h fun (v : Value) (h : Heap) =>
 ∃ (n : Int), ∃ (n_3 : Int), v = tuple #[int IntKind.i64 n, int IntKind.i64 n_3] ∧ Ret h K (tuple #[int IntKind.i64 n, int IntKind.i64 n_3]))))
theorem F_money_MulDiv (a : Int) (b : Int) (c : Int) (up : Bool) (h : Heap) (K : Value → Heap → Prop) (k : F_money_MulDivT a b c up h K) : CallA Tryz.prog fn_money_MulDiv [int IntKind.i64 a, int IntKind.i64 b, int IntKind.i64 c, Value.bool up] h K :=
 CallA.of_ev (cs := []) Tryz.func126 (by kernel_rfl) (fun _ _ => Tryz.call126 _ _) mixed (by kernel_rfl) (by kernel_rfl) k
def L_money_Sum_0 (high : Int) (lower : Int) (t9 : Option Addr) (t9n : Nat) (t9c : Nat) (t10 : Int) (t11 : Int) (h : Heap) (K : Value → Heap → Prop) : Prop :=
 LoopAt Tryz.prog Tryz.f95 95 (loopK Tryz.f95 0) (sp 37 [(4, int IntKind.i64 high), (5, int IntKind.u64 lower), (9, slice t9 t9n t9c), (10, int IntKind.i64 t10), (11, int IntKind.i64 t11)]) h K
def L_money_Sum_0T (high : Int) (lower : Int) (t9 : Option Addr) (t9n : Nat) (t9c : Nat) (t10 : Int) (t11 : Int) (h : Heap) (K : Value → Heap → Prop) : Prop :=
 Br (decide (t11 < t10))
 (0 ≤ t11 ∧
 t11 < (↑t9n : Int) ∧
 withAddr t9 fun (b o : Nat) =>
 ∃ (n : Int),
 Heap.cell h b (o + Int.toNat t11) = some (int IntKind.i64 n) ∧
 Br (decide (IntKind.wrap IntKind.u64 (lower + IntKind.wrap IntKind.u64 n) < lower))
 (L_money_Sum_0 (IntKind.wrap IntKind.i64 (IntKind.wrap IntKind.i64 (high + 1) + Int.fdiv n 9223372036854775808)) (IntKind.wrap IntKind.u64 (lower + IntKind.wrap IntKind.u64 n)) t9 t9n t9c t10
 (IntKind.wrap IntKind.i64 (t11 + 1)) h K)
 (L_money_Sum_0 (IntKind.wrap IntKind.i64 (high + Int.fdiv n 9223372036854775808)) (IntKind.wrap IntKind.u64 (lower + IntKind.wrap IntKind.u64 n)) t9 t9n t9c t10 (IntKind.wrap IntKind.i64 (t11 + 1)) h K))
 (Br (high != Int.fdiv (IntKind.wrap IntKind.i64 lower) 9223372036854775808) (Ret h K (tuple #[int IntKind.i64 0, int IntKind.i64 3]))
 (Ret h K (tuple #[int IntKind.i64 (IntKind.wrap IntKind.i64 lower), int IntKind.i64 0])))
theorem L_money_Sum_0r (high : Int) (lower : Int) (t9 : Option Addr) (t9n : Nat) (t9c : Nat) (t10 : Int) (t11 : Int) (h : Heap) (K : Value → Heap → Prop) (k : L_money_Sum_0T high lower t9 t9n t9c t10 t11 h K) : L_money_Sum_0 high lower t9 t9n t9c t10 t11 h K :=
 LoopAt.of_ev (cs := []) Tryz.func95 mixed (fun junk => by kernel_rfl) k
def F_money_SumT (l : Option Addr) (ln : Nat) (lc : Nat) (h : Heap) (K : Value → Heap → Prop) : Prop :=
 L_money_Sum_0 0 0 l ln lc (↑ln : Int) 0 h K
theorem F_money_Sum (l : Option Addr) (ln : Nat) (lc : Nat) (h : Heap) (K : Value → Heap → Prop) (k : F_money_SumT l ln lc h K) : CallA Tryz.prog fn_money_Sum [slice l ln lc] h K :=
 CallA.of_ev (cs := []) Tryz.func95 (by kernel_rfl) (fun _ _ => Tryz.call95 _ _) mixed (by kernel_rfl) (by kernel_rfl) k
def F_money_signedT (n : Int) (neg : Bool) (h : Heap) (K : Value → Heap → Prop) : Prop :=
 Br neg
 (Br (decide (n ≤ 9223372036854775808)) (Ret h K (tuple #[int IntKind.i64 (IntKind.wrap IntKind.i64 (0 - IntKind.wrap IntKind.i64 n)), int IntKind.i64 0]))
 (Br (!neg) (Br (decide (n < 9223372036854775808)) (Ret h K (tuple #[int IntKind.i64 (IntKind.wrap IntKind.i64 n), int IntKind.i64 0])) (Ret h K (tuple #[int IntKind.i64 0, int IntKind.i64 3])))
 (Ret h K (tuple #[int IntKind.i64 0, int IntKind.i64 3]))))
 (Br (!neg) (Br (decide (n < 9223372036854775808)) (Ret h K (tuple #[int IntKind.i64 (IntKind.wrap IntKind.i64 n), int IntKind.i64 0])) (Ret h K (tuple #[int IntKind.i64 0, int IntKind.i64 3])))
 (Ret h K (tuple #[int IntKind.i64 0, int IntKind.i64 3])))
theorem F_money_signed (n : Int) (neg : Bool) (h : Heap) (K : Value → Heap → Prop) (k : F_money_signedT n neg h K) : CallA Tryz.prog fn_money_signed [int IntKind.u64 n, Value.bool neg] h K :=
 CallA.of_ev (cs := []) Tryz.func130 (by kernel_rfl) (fun _ _ => Tryz.call130 _ _) mixed (by kernel_rfl) (by kernel_rfl) k
def F_money_sizeT (a : Int) (h : Heap) (K : Value → Heap → Prop) : Prop :=
 Br (decide (a < 0)) (Ret h K (int IntKind.u64 (IntKind.wrap IntKind.u64 (0 - IntKind.wrap IntKind.u64 a)))) (Ret h K (int IntKind.u64 (IntKind.wrap IntKind.u64 a)))
theorem F_money_size (a : Int) (h : Heap) (K : Value → Heap → Prop) (k : F_money_sizeT a h K) : CallA Tryz.prog fn_money_size [int IntKind.i64 a] h K :=
 CallA.of_ev (cs := []) Tryz.func128 (by kernel_rfl) (fun _ _ => Tryz.call128 _ _) mixed (by kernel_rfl) (by kernel_rfl) k
def F_money_productT (a : Int) (b : Int) (h : Heap) (K : Value → Heap → Prop) : Prop :=
 newB h [int IntKind.u64 0, int IntKind.u64 0, int IntKind.u64 0, int IntKind.u64 0] 179 fun (r : Nat) (h : Heap) =>
 Heap.canSt h r 0 4 ∧
 ∃ (n : Int),
 Heap.cell
 (Heap.setN h r 0
 [int IntKind.u64
 (IntKind.wrap IntKind.u64
 (IntKind.wrap IntKind.u64 (↑(BitVec.toNat (BitVec.ofInt 64 a &&& BitVec.ofInt 64 4294967295)) : Int) *
 IntKind.wrap IntKind.u64 (↑(BitVec.toNat (BitVec.ofInt 64 b &&& BitVec.ofInt 64 4294967295)) : Int))),
 int IntKind.u64 (IntKind.wrap IntKind.u64 (IntKind.wrap IntKind.u64 (↑(BitVec.toNat (BitVec.ofInt 64 a &&& BitVec.ofInt 64 4294967295)) : Int) * Int.fdiv b 4294967296)),
 int IntKind.u64 (IntKind.wrap IntKind.u64 (Int.fdiv a 4294967296 * IntKind.wrap IntKind.u64 (↑(BitVec.toNat (BitVec.ofInt 64 b &&& BitVec.ofInt 64 4294967295)) : Int))),
 int IntKind.u64 (IntKind.wrap IntKind.u64 (Int.fdiv a 4294967296 * Int.fdiv b 4294967296))])
 r 0 =
 some (int IntKind.u64 n) ∧
 ∃ (n_1 : Int),
 Heap.cell
 (Heap.setN h r 0
 [int IntKind.u64
 (IntKind.wrap IntKind.u64
 (IntKind.wrap IntKind.u64 (↑(BitVec.toNat (BitVec.ofInt 64 a &&& BitVec.ofInt 64 4294967295)) : Int) *
 IntKind.wrap IntKind.u64 (↑(BitVec.toNat (BitVec.ofInt 64 b &&& BitVec.ofInt 64 4294967295)) : Int))),
 int IntKind.u64 (IntKind.wrap IntKind.u64 (IntKind.wrap IntKind.u64 (↑(BitVec.toNat (BitVec.ofInt 64 a &&& BitVec.ofInt 64 4294967295)) : Int) * Int.fdiv b 4294967296)),
 int IntKind.u64 (IntKind.wrap IntKind.u64 (Int.fdiv a 4294967296 * IntKind.wrap IntKind.u64 (↑(BitVec.toNat (BitVec.ofInt 64 b &&& BitVec.ofInt 64 4294967295)) : Int))),
 int IntKind.u64 (IntKind.wrap IntKind.u64 (Int.fdiv a 4294967296 * Int.fdiv b 4294967296))])
 r 1 =
 some (int IntKind.u64 n_1) ∧
 ∃ (n_2 : Int),
 Heap.cell
 (Heap.setN h r 0
 [int IntKind.u64
 (IntKind.wrap IntKind.u64
 (IntKind.wrap IntKind.u64 (↑(BitVec.toNat (BitVec.ofInt 64 a &&& BitVec.ofInt 64 4294967295)) : Int) *
 IntKind.wrap IntKind.u64 (↑(BitVec.toNat (BitVec.ofInt 64 b &&& BitVec.ofInt 64 4294967295)) : Int))),
 int IntKind.u64 (IntKind.wrap IntKind.u64 (IntKind.wrap IntKind.u64 (↑(BitVec.toNat (BitVec.ofInt 64 a &&& BitVec.ofInt 64 4294967295)) : Int) * Int.fdiv b 4294967296)),
 int IntKind.u64 (IntKind.wrap IntKind.u64 (Int.fdiv a 4294967296 * IntKind.wrap IntKind.u64 (↑(BitVec.toNat (BitVec.ofInt 64 b &&& BitVec.ofInt 64 4294967295)) : Int))),
 int IntKind.u64 (IntKind.wrap IntKind.u64 (Int.fdiv a 4294967296 * Int.fdiv b 4294967296))])
 r 2 =
 some (int IntKind.u64 n_2) ∧
 ∃ (n_3 : Int),
 Heap.cell
 (Heap.setN h r 0
 [int IntKind.u64
 (IntKind.wrap IntKind.u64
 (IntKind.wrap IntKind.u64 (↑(BitVec.toNat (BitVec.ofInt 64 a &&& BitVec.ofInt 64 4294967295)) : Int) *
 IntKind.wrap IntKind.u64 (↑(BitVec.toNat (BitVec.ofInt 64 b &&& BitVec.ofInt 64 4294967295)) : Int))),
 int IntKind.u64 (IntKind.wrap IntKind.u64 (IntKind.wrap IntKind.u64 (↑(BitVec.toNat (BitVec.ofInt 64 a &&& BitVec.ofInt 64 4294967295)) : Int) * Int.fdiv b 4294967296)),
 int IntKind.u64 (IntKind.wrap IntKind.u64 (Int.fdiv a 4294967296 * IntKind.wrap IntKind.u64 (↑(BitVec.toNat (BitVec.ofInt 64 b &&& BitVec.ofInt 64 4294967295)) : Int))),
 int IntKind.u64 (IntKind.wrap IntKind.u64 (Int.fdiv a 4294967296 * Int.fdiv b 4294967296))])
 r 0 =
 some (int IntKind.u64 n_3) ∧
 ∃ (n_4 : Int),
 Heap.cell
 (Heap.setN h r 0
 [int IntKind.u64
 (IntKind.wrap IntKind.u64
 (IntKind.wrap IntKind.u64 (↑(BitVec.toNat (BitVec.ofInt 64 a &&& BitVec.ofInt 64 4294967295)) : Int) *
 IntKind.wrap IntKind.u64 (↑(BitVec.toNat (BitVec.ofInt 64 b &&& BitVec.ofInt 64 4294967295)) : Int))),
 int IntKind.u64 (IntKind.wrap IntKind.u64 (IntKind.wrap IntKind.u64 (↑(BitVec.toNat (BitVec.ofInt 64 a &&& BitVec.ofInt 64 4294967295)) : Int) * Int.fdiv b 4294967296)),
 int IntKind.u64 (IntKind.wrap IntKind.u64 (Int.fdiv a 4294967296 * IntKind.wrap IntKind.u64 (↑(BitVec.toNat (BitVec.ofInt 64 b &&& BitVec.ofInt 64 4294967295)) : Int))),
 int IntKind.u64 (IntKind.wrap IntKind.u64 (Int.fdiv a 4294967296 * Int.fdiv b 4294967296))])
 r 3 =
 some (int IntKind.u64 n_4) ∧
 ∃ (n_5 : Int),
 Heap.cell
 (Heap.setN h r 0
 [int IntKind.u64
 (IntKind.wrap IntKind.u64
 (IntKind.wrap IntKind.u64 (↑(BitVec.toNat (BitVec.ofInt 64 a &&& BitVec.ofInt 64 4294967295)) : Int) *
 IntKind.wrap IntKind.u64 (↑(BitVec.toNat (BitVec.ofInt 64 b &&& BitVec.ofInt 64 4294967295)) : Int))),
 int IntKind.u64 (IntKind.wrap IntKind.u64 (IntKind.wrap IntKind.u64 (↑(BitVec.toNat (BitVec.ofInt 64 a &&& BitVec.ofInt 64 4294967295)) : Int) * Int.fdiv b 4294967296)),
 int IntKind.u64 (IntKind.wrap IntKind.u64 (Int.fdiv a 4294967296 * IntKind.wrap IntKind.u64 (↑(BitVec.toNat (BitVec.ofInt 64 b &&& BitVec.ofInt 64 4294967295)) : Int))),
 int IntKind.u64 (IntKind.wrap IntKind.u64 (Int.fdiv a 4294967296 * Int.fdiv b 4294967296))])
 r 1 =
 some (int IntKind.u64 n_5) ∧
 ∃ (n_6 : Int),
 Heap.cell
 (Heap.setN h r 0
 [int IntKind.u64
 (IntKind.wrap IntKind.u64
 (IntKind.wrap IntKind.u64 (↑(BitVec.toNat (BitVec.ofInt 64 a &&& BitVec.ofInt 64 4294967295)) : Int) *
 IntKind.wrap IntKind.u64 (↑(BitVec.toNat (BitVec.ofInt 64 b &&& BitVec.ofInt 64 4294967295)) : Int))),
 int IntKind.u64 (IntKind.wrap IntKind.u64 (IntKind.wrap IntKind.u64 (↑(BitVec.toNat (BitVec.ofInt 64 a &&& BitVec.ofInt 64 4294967295)) : Int) * Int.fdiv b 4294967296)),
 int IntKind.u64 (IntKind.wrap IntKind.u64 (Int.fdiv a 4294967296 * IntKind.wrap IntKind.u64 (↑(BitVec.toNat (BitVec.ofInt 64 b &&& BitVec.ofInt 64 4294967295)) : Int))),
 int IntKind.u64 (IntKind.wrap IntKind.u64 (Int.fdiv a 4294967296 * Int.fdiv b 4294967296))])
 r 2 =
 some (int IntKind.u64 n_6) ∧
 Ret
 (Heap.setN h r 0
 [int IntKind.u64
 (IntKind.wrap IntKind.u64
 (IntKind.wrap IntKind.u64 (↑(BitVec.toNat (BitVec.ofInt 64 a &&& BitVec.ofInt 64 4294967295)) : Int) *
 IntKind.wrap IntKind.u64 (↑(BitVec.toNat (BitVec.ofInt 64 b &&& BitVec.ofInt 64 4294967295)) : Int))),
 int IntKind.u64 (IntKind.wrap IntKind.u64 (IntKind.wrap IntKind.u64 (↑(BitVec.toNat (BitVec.ofInt 64 a &&& BitVec.ofInt 64 4294967295)) : Int) * Int.fdiv b 4294967296)),
 int IntKind.u64 (IntKind.wrap IntKind.u64 (Int.fdiv a 4294967296 * IntKind.wrap IntKind.u64 (↑(BitVec.toNat (BitVec.ofInt 64 b &&& BitVec.ofInt 64 4294967295)) : Int))),
 int IntKind.u64 (IntKind.wrap IntKind.u64 (Int.fdiv a 4294967296 * Int.fdiv b 4294967296))])
 K
 (tuple
 #[int IntKind.u64
 (IntKind.wrap IntKind.u64
 (IntKind.wrap IntKind.u64 (IntKind.wrap IntKind.u64 (n_4 + Int.fdiv n_5 4294967296) + Int.fdiv n_6 4294967296) +
 Int.fdiv
 (IntKind.wrap IntKind.u64
 (IntKind.wrap IntKind.u64 (Int.fdiv n 4294967296 + IntKind.wrap IntKind.u64 (↑(BitVec.toNat (BitVec.ofInt 64 n_1 &&& BitVec.ofInt 64 4294967295)) : Int)) +
 IntKind.wrap IntKind.u64 (↑(BitVec.toNat (BitVec.ofInt 64 n_2 &&& BitVec.ofInt 64 4294967295)) : Int)))
 4294967296)),
 int IntKind.u64
 (IntKind.wrap IntKind.u64
 (↑(BitVec.toNat
 (BitVec.ofInt 64 (IntKind.wrap IntKind.u64 (↑(BitVec.toNat (BitVec.ofInt 64 n_3 &&& BitVec.ofInt 64 4294967295)) : Int)) |||
 BitVec.ofInt 64
 (IntKind.wrap IntKind.u64
 (IntKind.wrap IntKind.u64
 (IntKind.wrap IntKind.u64 (Int.fdiv n 4294967296 + IntKind.wrap IntKind.u64 (↑(BitVec.toNat (BitVec.ofInt 64 n_1 &&& BitVec.ofInt 64 4294967295)) : Int)) +
 IntKind.wrap IntKind.u64 (↑(BitVec.toNat (BitVec.ofInt 64 n_2 &&& BitVec.ofInt 64 4294967295)) : Int)) *
 4294967296)))) :
 Int))])
theorem F_money_product (a : Int) (b : Int) (h : Heap) (K : Value → Heap → Prop) (k : F_money_productT a b h K) : CallA Tryz.prog fn_money_product [int IntKind.u64 a, int IntKind.u64 b] h K :=
 CallA.of_ev (cs := []) Tryz.func127 (by kernel_rfl) (fun _ _ => Tryz.call127 _ _) mixed (by kernel_rfl) (by kernel_rfl) k
def L_money_quotient_0 (lower : Int) (by' : Int) (q : Int) (rest : Int) (t15 : Int) (h : Heap) (K : Value → Heap → Prop) : Prop :=
 LoopAt Tryz.prog Tryz.f129 129 (loopK Tryz.f129 0) (sp 43 [(1, int IntKind.u64 lower), (2, int IntKind.u64 by'), (6, int IntKind.u64 q), (9, int IntKind.u64 rest), (15, int IntKind.i64 t15)]) h K
def L_money_quotient_0T (lower : Int) (by' : Int) (q : Int) (rest : Int) (t15 : Int) (h : Heap) (K : Value → Heap → Prop) : Prop :=
 Br (decide (t15 < 64))
 (Br (decide (rest ≥ 9223372036854775808))
 (L_money_quotient_0 (IntKind.wrap IntKind.u64 (lower * 2)) by' (IntKind.wrap IntKind.u64 (↑(BitVec.toNat (BitVec.ofInt 64 (IntKind.wrap IntKind.u64 (q * 2)) ||| BitVec.ofInt 64 1)) : Int))
 (IntKind.wrap IntKind.u64 (IntKind.wrap IntKind.u64 (↑(BitVec.toNat (BitVec.ofInt 64 (IntKind.wrap IntKind.u64 (rest * 2)) ||| BitVec.ofInt 64 (Int.fdiv lower 9223372036854775808))) : Int) - by'))
 (IntKind.wrap IntKind.i64 (t15 + 1)) h K)
 (Br (decide (IntKind.wrap IntKind.u64 (↑(BitVec.toNat (BitVec.ofInt 64 (IntKind.wrap IntKind.u64 (rest * 2)) ||| BitVec.ofInt 64 (Int.fdiv lower 9223372036854775808))) : Int) ≥ by'))
 (L_money_quotient_0 (IntKind.wrap IntKind.u64 (lower * 2)) by' (IntKind.wrap IntKind.u64 (↑(BitVec.toNat (BitVec.ofInt 64 (IntKind.wrap IntKind.u64 (q * 2)) ||| BitVec.ofInt 64 1)) : Int))
 (IntKind.wrap IntKind.u64 (IntKind.wrap IntKind.u64 (↑(BitVec.toNat (BitVec.ofInt 64 (IntKind.wrap IntKind.u64 (rest * 2)) ||| BitVec.ofInt 64 (Int.fdiv lower 9223372036854775808))) : Int) - by'))
 (IntKind.wrap IntKind.i64 (t15 + 1)) h K)
 (L_money_quotient_0 (IntKind.wrap IntKind.u64 (lower * 2)) by' (IntKind.wrap IntKind.u64 (q * 2))
 (IntKind.wrap IntKind.u64 (↑(BitVec.toNat (BitVec.ofInt 64 (IntKind.wrap IntKind.u64 (rest * 2)) ||| BitVec.ofInt 64 (Int.fdiv lower 9223372036854775808))) : Int)) (IntKind.wrap IntKind.i64 (t15 + 1)) h K)))
 (Ret h K (tuple #[int IntKind.u64 q, Value.bool (rest != 0), Value.bool true]))
theorem L_money_quotient_0r (lower : Int) (by' : Int) (q : Int) (rest : Int) (t15 : Int) (h : Heap) (K : Value → Heap → Prop) (k : L_money_quotient_0T lower by' q rest t15 h K) : L_money_quotient_0 lower by' q rest t15 h K :=
 LoopAt.of_ev (cs := []) Tryz.func129 mixed (fun junk => by kernel_rfl) k
def F_money_quotientT (high : Int) (lower : Int) (by' : Int) (h : Heap) (K : Value → Heap → Prop) : Prop :=
 Br (decide (high ≥ by')) (Ret h K (tuple #[int IntKind.u64 0, Value.bool false, Value.bool false])) (L_money_quotient_0 lower by' 0 high 0 h K)
theorem F_money_quotient (high : Int) (lower : Int) (by' : Int) (h : Heap) (K : Value → Heap → Prop) (k : F_money_quotientT high lower by' h K) : CallA Tryz.prog fn_money_quotient [int IntKind.u64 high, int IntKind.u64 lower, int IntKind.u64 by'] h K :=
 CallA.of_ev (cs := []) Tryz.func129 (by kernel_rfl) (fun _ _ => Tryz.call129 _ _) mixed (by kernel_rfl) (by kernel_rfl) k
end Go.Proofs.YtghdadniddoboaaGreat

namespace Go.Proofs.YtghdadniddoboaaGreat
open Go Go.Sy Go.Value
set_option linter.unusedVariables false
set_option maxRecDepth 100000
def L_ref01_Mul_0 (a : Nat) (b : Nat) (t4 : Nat) (out : Nat) (i : Int) (h : Heap) (K : Value → Heap → Prop) : Prop :=
 LoopAt Tryz.prog Tryz.f121 121 (loopK Tryz.f121 0) (sp 70 [(2, pointer (some { block := a, off := 0 })), (3, pointer (some { block := b, off := 0 })), (4, pointer (some { block := t4, off := 0 })), (5, pointer (some { block := out, off := 0 })), (6, int IntKind.i64 i)]) h K
def L_ref01_Mul_1 (a : Nat) (b : Nat) (t4 : Nat) (out : Nat) (i : Int) (carry : Int) (k' : Int) (h : Heap) (K : Value → Heap → Prop) : Prop :=
 LoopAt Tryz.prog Tryz.f121 121 (loopK Tryz.f121 1) (sp 70 [(2, pointer (some { block := a, off := 0 })), (3, pointer (some { block := b, off := 0 })), (4, pointer (some { block := t4, off := 0 })), (5, pointer (some { block := out, off := 0 })), (6, int IntKind.i64 i),
 (7, int IntKind.i64 carry), (8, int IntKind.i64 k')]) h K
def L_ref01_Mul_0T (a : Nat) (b : Nat) (t4 : Nat) (out : Nat) (i : Int) (h : Heap) (K : Value → Heap → Prop) : Prop :=
 ∃ (a_1 : Option Addr),
 ∃ (n : Nat),
 ∃ (m : Nat),
 Heap.cell h a 1 = some (slice a_1 n m) ∧
 Br (decide (i < (↑n : Int))) (L_ref01_Mul_1 a b t4 out i 0 0 h K)
 (∃ (b : Bool),
 Heap.cell h out 0 = some (Value.bool b) ∧
 ∃ (a : Option Addr),
 ∃ (n : Nat),
 ∃ (m : Nat),
 Heap.cell h out 1 = some (slice a n m) ∧
 CallA Tryz.prog fn_ref01_trim [agg #[Value.bool b, slice a n m]] h fun (v : Value) (h : Heap) =>
 ∃ (b : Bool),
 ∃ (a : Option Addr),
 ∃ (n : Nat),
 ∃ (m : Nat),
 v = agg #[Value.bool b, slice a n m] ∧
 Heap.canSt h t4 0 2 ∧
 ∃ (b_1 : Bool),
 Heap.cell (Heap.setN h t4 0 [Value.bool b, slice a n m]) t4 0 = some (Value.bool b_1) ∧
 ∃ (a_2 : Option Addr),
 ∃ (n_1 : Nat),
 ∃ (m_1 : Nat),
 Heap.cell (Heap.setN h t4 0 [Value.bool b, slice a n m]) t4 1 = some (slice a_2 n_1 m_1) ∧
 Ret (Heap.setN h t4 0 [Value.bool b, slice a n m]) K (agg #[Value.bool b_1, slice a_2 n_1 m_1]))
theorem L_ref01_Mul_0r (a : Nat) (b : Nat) (t4 : Nat) (out : Nat) (i : Int) (h : Heap) (K : Value → Heap → Prop) (k : L_ref01_Mul_0T a b t4 out i h K) : L_ref01_Mul_0 a b t4 out i h K :=
 LoopAt.of_ev (cs := []) Tryz.func121 mixed (fun junk => by kernel_rfl) k
def L_ref01_Mul_1T (a : Nat) (b : Nat) (t4 : Nat) (out : Nat) (i : Int) (carry : Int) (k' : Int) (h : Heap) (K : Value → Heap → Prop) : Prop :=
 ∃ (a_1 : Option Addr),
 ∃ (n : Nat),
 ∃ (m : Nat),
 Heap.cell h b 1 = some (slice a_1 n m) ∧
 Br (decide (k' < IntKind.wrap IntKind.i64 ((↑n : Int) + 1)))
 (∃ (a_2 : Option Addr),
 ∃ (n : Nat),
 ∃ (m : Nat),
 Heap.cell h out 1 = some (slice a_2 n m) ∧
 0 ≤ IntKind.wrap IntKind.i64 (i + k') ∧
 IntKind.wrap IntKind.i64 (i + k') < (↑n : Int) ∧
 withAddr a_2 fun (b_1 o : Nat) =>
 ∃ (n : Int),
 Heap.cell h b_1 (o + Int.toNat (IntKind.wrap IntKind.i64 (i + k'))) = some (int IntKind.i64 n) ∧
 ∃ (a_3 : Option Addr),
 ∃ (n_1 : Nat),
 ∃ (m : Nat),
 Heap.cell h a 1 = some (slice a_3 n_1 m) ∧
 0 ≤ i ∧
 i < (↑n_1 : Int) ∧
 withAddr a_3 fun (b_2 o : Nat) =>
 ∃ (n_2 : Int),
 Heap.cell h b_2 (o + Int.toNat i) = some (int IntKind.i64 n_2) ∧
 ∃ (b_3 : Bool),
 Heap.cell h b 0 = some (Value.bool b_3) ∧
 ∃ (a_4 : Option Addr),
 ∃ (n_3 : Nat),
 ∃ (m : Nat),
 Heap.cell h b 1 = some (slice a_4 n_3 m) ∧
 CallA Tryz.prog fn_ref01_digit [agg #[Value.bool b_3, slice a_4 n_3 m], int IntKind.i64 k'] h fun (v : Value) (h_1 : Heap) =>
 ∃ (n_4 : Int),
 v = int IntKind.i64 n_4 ∧
 (Heap.le h h_1 ∨ Keeps [out, b_1, a, b_2] h h_1) ∧
 ∃ (a_5 : Option Addr),
 ∃ (n_5 : Nat),
 ∃ (m : Nat),
 Heap.cell h_1 out 1 = some (slice a_5 n_5 m) ∧
 0 ≤ IntKind.wrap IntKind.i64 (i + k') ∧
 IntKind.wrap IntKind.i64 (i + k') < (↑n_5 : Int) ∧
 withAddr a_5 fun (b_4 o : Nat) =>
 Heap.canSt h_1 b_4 (o + Int.toNat (IntKind.wrap IntKind.i64 (i + k'))) 1 ∧
 L_ref01_Mul_1 a b t4 out i
 (IntKind.wrap IntKind.i64
 (Int.tdiv (IntKind.wrap IntKind.i64 (IntKind.wrap IntKind.i64 (carry + n) + IntKind.wrap IntKind.i64 (n_2 * n_4))) 10000))
 (IntKind.wrap IntKind.i64 (k' + 1))
 (Heap.setN h_1 b_4 (o + Int.toNat (IntKind.wrap IntKind.i64 (i + k')))
 [int IntKind.i64
 (Int.tmod (IntKind.wrap IntKind.i64 (IntKind.wrap IntKind.i64 (carry + n) + IntKind.wrap IntKind.i64 (n_2 * n_4))) 10000)])
 K)
 (L_ref01_Mul_0 a b t4 out (IntKind.wrap IntKind.i64 (i + 1)) h K)
theorem L_ref01_Mul_1r (a : Nat) (b : Nat) (t4 : Nat) (out : Nat) (i : Int) (carry : Int) (k' : Int) (h : Heap) (K : Value → Heap → Prop) (k : L_ref01_Mul_1T a b t4 out i carry k' h K) : L_ref01_Mul_1 a b t4 out i carry k' h K :=
 LoopAt.of_ev (cs := []) Tryz.func121 mixed (fun junk => by kernel_rfl) k
def F_ref01_MulT (a_0 : Bool) (a_1 : Option Addr) (a_1n : Nat) (a_1c : Nat) (b_0 : Bool) (b_1 : Option Addr) (b_1n : Nat) (b_1c : Nat) (h : Heap) (K : Value → Heap → Prop) : Prop :=
 newB h [Value.bool a_0, slice a_1 a_1n a_1c] 126 fun (r : Nat) (h : Heap) =>
 newB h [Value.bool b_0, slice b_1 b_1n b_1c] 126 fun (r_1 : Nat) (h : Heap) =>
 newB h [Value.bool false, slice none 0 0] 126 fun (r_2 : Nat) (h : Heap) =>
 ∃ (b : Bool),
 Heap.cell h r 0 = some (Value.bool b) ∧
 ∃ (b_2 : Bool),
 Heap.cell h r_1 0 = some (Value.bool b_2) ∧
 ∃ (a : Option Addr),
 ∃ (n : Nat),
 ∃ (m : Nat),
 Heap.cell h r 1 = some (slice a n m) ∧
 ∃ (a : Option Addr),
 ∃ (n_1 : Nat),
 ∃ (m : Nat),
 Heap.cell h r_1 1 = some (slice a n_1 m) ∧
 0 ≤ IntKind.wrap IntKind.i64 (IntKind.wrap IntKind.i64 ((↑n : Int) + (↑n_1 : Int)) + 1) ∧
 IntKind.wrap IntKind.i64 (IntKind.wrap IntKind.i64 ((↑n : Int) + (↑n_1 : Int)) + 1) ≤ IntKind.wrap IntKind.i64 (IntKind.wrap IntKind.i64 ((↑n : Int) + (↑n_1 : Int)) + 1) ∧
 IntKind.wrap IntKind.i64 (IntKind.wrap IntKind.i64 ((↑n : Int) + (↑n_1 : Int)) + 1) ≤ 281474976710656 ∧
 8 * IntKind.wrap IntKind.i64 (IntKind.wrap IntKind.i64 ((↑n : Int) + (↑n_1 : Int)) + 1) ≤ 281474976710656 ∧
 newB h (repL (Int.toNat (IntKind.wrap IntKind.i64 (IntKind.wrap IntKind.i64 ((↑n : Int) + (↑n_1 : Int)) + 1))) [int IntKind.i64 0]) 3 fun (r_3 : Nat) (h : Heap) =>
 newB h [Value.bool false, slice none 0 0] 126 fun (r_4 : Nat) (h : Heap) =>
 Heap.canSt h r_4 0 2 ∧
 L_ref01_Mul_0 r r_1 r_2 r_4 0
 (Heap.setN h r_4 0
 [Value.bool !b == b_2,
 slice (some { block := r_3, off := 0 }) (Int.toNat (IntKind.wrap IntKind.i64 (IntKind.wrap IntKind.i64 ((↑n : Int) + (↑n_1 : Int)) + 1)))
 (Int.toNat (IntKind.wrap IntKind.i64 (IntKind.wrap IntKind.i64 ((↑n : Int) + (↑n_1 : Int)) + 1)))])
 K
theorem F_ref01_Mul (a_0 : Bool) (a_1 : Option Addr) (a_1n : Nat) (a_1c : Nat) (b_0 : Bool) (b_1 : Option Addr) (b_1n : Nat) (b_1c : Nat) (h : Heap) (K : Value → Heap → Prop) (k : F_ref01_MulT a_0 a_1 a_1n a_1c b_0 b_1 b_1n b_1c h K) : CallA Tryz.prog fn_ref01_Mul [agg #[Value.bool a_0, slice a_1 a_1n a_1c], agg #[Value.bool b_0, slice b_1 b_1n b_1c]] h K :=
 CallA.of_ev (cs := []) Tryz.func121 (by kernel_rfl) (fun _ _ => Tryz.call121 _ _) mixed (by kernel_rfl) (by kernel_rfl) k
end Go.Proofs.YtghdadniddoboaaGreat

namespace Go.Proofs.YtghdadniddoboaaGreat
open Go Go.Sy Go.Value
set_option linter.unusedVariables false
set_option maxRecDepth 100000
def L_ref01_Div_0 (up : Bool) (a : Nat) (b : Nat) (t6 : Nat) (rest : Nat) (q : Nat) (i : Int) (h : Heap) (K : Value → Heap → Prop) : Prop :=
 LoopAt Tryz.prog Tryz.f122 122 (loopK Tryz.f122 0) (sp 110 [(2, Value.bool up), (3, pointer (some { block := a, off := 0 })), (4, pointer (some { block := b, off := 0 })), (6, pointer (some { block := t6, off := 0 })), (7, pointer (some { block := rest, off := 0 })),
 (8, pointer (some { block := q, off := 0 })), (9, int IntKind.i64 i)]) h K
def L_ref01_Div_1 (up : Bool) (a : Nat) (b : Nat) (t6 : Nat) (rest : Nat) (q : Nat) (i : Int) (h : Heap) (K : Value → Heap → Prop) : Prop :=
 LoopAt Tryz.prog Tryz.f122 122 (loopK Tryz.f122 1) (sp 110 [(2, Value.bool up), (3, pointer (some { block := a, off := 0 })), (4, pointer (some { block := b, off := 0 })), (6, pointer (some { block := t6, off := 0 })), (7, pointer (some { block := rest, off := 0 })),
 (8, pointer (some { block := q, off := 0 })), (9, int IntKind.i64 i)]) h K
def L_ref01_Div_2 (up : Bool) (a : Nat) (b : Nat) (t6 : Nat) (rest : Nat) (q : Nat) (i : Int) (low : Int) (high : Int) (h : Heap) (K : Value → Heap → Prop) : Prop :=
 LoopAt Tryz.prog Tryz.f122 122 (loopK Tryz.f122 2) (sp 110 [(2, Value.bool up), (3, pointer (some { block := a, off := 0 })), (4, pointer (some { block := b, off := 0 })), (6, pointer (some { block := t6, off := 0 })), (7, pointer (some { block := rest, off := 0 })),
 (8, pointer (some { block := q, off := 0 })), (9, int IntKind.i64 i), (10, int IntKind.i64 low), (11, int IntKind.i64 high)]) h K
def L_ref01_Div_0T (up : Bool) (a : Nat) (b : Nat) (t6 : Nat) (rest : Nat) (q : Nat) (i : Int) (h : Heap) (K : Value → Heap → Prop) : Prop :=
 Br (decide (i ≥ 0))
 (∃ (a_1 : Option Addr),
 ∃ (n : Nat),
 ∃ (m : Nat),
 Heap.cell h a 1 = some (slice a_1 n m) ∧
 0 ≤ i ∧
 i < (↑n : Int) ∧
 withAddr a_1 fun (b_1 o : Nat) =>
 ∃ (n : Int),
 Heap.cell h b_1 (o + Int.toNat i) = some (int IntKind.i64 n) ∧
 ∃ (a_2 : Option Addr),
 ∃ (n_1 : Nat),
 ∃ (m : Nat),
 Heap.cell h rest 1 = some (slice a_2 n_1 m) ∧
 newB h [int IntKind.i64 n] 3 fun (r : Nat) (h : Heap) =>
 AppA [int IntKind.i64 0] 3 h (some { block := r, off := 0 }) 1 1 n_1 a_2 fun (ap : Option Addr) (cp : Nat) (h : Heap) =>
 CallA Tryz.prog fn_ref01_trim [agg #[Value.bool false, slice ap (1 + n_1) cp]] h fun (v : Value) (h : Heap) =>
 ∃ (b_2 : Bool),
 ∃ (a_3 : Option Addr),
 ∃ (n : Nat), ∃ (m : Nat), v = agg #[Value.bool b_2, slice a_3 n m] ∧ Heap.canSt h rest 0 2 ∧ L_ref01_Div_1 up a b t6 rest q i (Heap.setN h rest 0 [Value.bool b_2, slice a_3 n m]) K)
 (∃ (b : Bool),
 Heap.cell h q 0 = some (Value.bool b) ∧
 ∃ (a_1 : Option Addr),
 ∃ (n : Nat),
 ∃ (m : Nat),
 Heap.cell h q 1 = some (slice a_1 n m) ∧
 CallA Tryz.prog fn_ref01_trim [agg #[Value.bool b, slice a_1 n m]] h fun (v : Value) (h : Heap) =>
 ∃ (b : Bool),
 ∃ (a_2 : Option Addr),
 ∃ (n : Nat),
 ∃ (m : Nat),
 v = agg #[Value.bool b, slice a_2 n m] ∧
 Heap.canSt h q 0 2 ∧
 ∃ (a_3 : Option Addr),
 ∃ (n_1 : Nat),
 ∃ (m_1 : Nat),
 Heap.cell (Heap.setN h q 0 [Value.bool b, slice a_2 n m]) rest 1 = some (slice a_3 n_1 m_1) ∧
 Br (decide ((↑n_1 : Int) > 0))
 (∃ (b_1 : Bool),
 Heap.cell (Heap.setN h q 0 [Value.bool b, slice a_2 n m]) a 0 = some (Value.bool b_1) ∧
 Br (!b_1)
 (Br up
 (∃ (b_2 : Bool),
 Heap.cell (Heap.setN h q 0 [Value.bool b, slice a_2 n m]) q 0 = some (Value.bool b_2) ∧
 ∃ (a : Option Addr),
 ∃ (n_2 : Nat),
 ∃ (m_2 : Nat),
 Heap.cell (Heap.setN h q 0 [Value.bool b, slice a_2 n m]) q 1 = some (slice a n_2 m_2) ∧
 CallA Tryz.prog fn_ref01_Of [int IntKind.i64 1] (Heap.setN h q 0 [Value.bool b, slice a_2 n m]) fun (v : Value) (h_1 : Heap) =>
 ∃ (b_3 : Bool),
 ∃ (a_4 : Option Addr),
 ∃ (n_3 : Nat),
 ∃ (m_3 : Nat),
 v = agg #[Value.bool b_3, slice a_4 n_3 m_3] ∧
 (Heap.le (Heap.setN h q 0 [Value.bool b, slice a_2 n m]) h_1 ∨ Keeps [q] (Heap.setN h q 0 [Value.bool b, slice a_2 n m]) h_1) ∧
 CallA Tryz.prog fn_ref01_Add [agg #[Value.bool b_2, slice a n_2 m_2], agg #[Value.bool b_3, slice a_4 n_3 m_3]] h_1 fun (v : Value) (h : Heap) =>
 ∃ (b : Bool),
 ∃ (a : Option Addr),
 ∃ (n : Nat),
 ∃ (m : Nat),
 v = agg #[Value.bool b, slice a n m] ∧
 Heap.canSt h t6 0 2 ∧
 ∃ (b_4 : Bool),
 Heap.cell (Heap.setN h t6 0 [Value.bool b, slice a n m]) t6 0 = some (Value.bool b_4) ∧
 ∃ (a_5 : Option Addr),
 ∃ (n_4 : Nat),
 ∃ (m_4 : Nat),
 Heap.cell (Heap.setN h t6 0 [Value.bool b, slice a n m]) t6 1 = some (slice a_5 n_4 m_4) ∧
 Ret (Heap.setN h t6 0 [Value.bool b, slice a n m]) K (agg #[Value.bool b_4, slice a_5 n_4 m_4]))
 (∃ (a_4 : Option Addr),
 ∃ (n_2 : Nat),
 ∃ (m_2 : Nat),
 Heap.cell (Heap.setN h q 0 [Value.bool b, slice a_2 n m]) rest 1 = some (slice a_4 n_2 m_2) ∧
 Br (decide ((↑n_2 : Int) > 0))
 (∃ (b_2 : Bool),
 Heap.cell (Heap.setN h q 0 [Value.bool b, slice a_2 n m]) a 0 = some (Value.bool b_2) ∧
 Br b_2
 (Br (!up)
 (∃ (b_3 : Bool),
 Heap.cell (Heap.setN h q 0 [Value.bool b, slice a_2 n m]) q 0 = some (Value.bool b_3) ∧
 ∃ (a : Option Addr),
 ∃ (n_3 : Nat),
 ∃ (m_3 : Nat),
 Heap.cell (Heap.setN h q 0 [Value.bool b, slice a_2 n m]) q 1 = some (slice a n_3 m_3) ∧
 CallA Tryz.prog fn_ref01_Of [int IntKind.i64 (-1)] (Heap.setN h q 0 [Value.bool b, slice a_2 n m]) fun (v : Value) (h_1 : Heap) =>
 ∃ (b_4 : Bool),
 ∃ (a_5 : Option Addr),
 ∃ (n_4 : Nat),
 ∃ (m_4 : Nat),
 v = agg #[Value.bool b_4, slice a_5 n_4 m_4] ∧
 (Heap.le (Heap.setN h q 0 [Value.bool b, slice a_2 n m]) h_1 ∨ Keeps [q] (Heap.setN h q 0 [Value.bool b, slice a_2 n m]) h_1) ∧
 CallA Tryz.prog fn_ref01_Add [agg #[Value.bool b_3, slice a n_3 m_3], agg #[Value.bool b_4, slice a_5 n_4 m_4]] h_1
 fun (v : Value) (h : Heap) =>
 ∃ (b : Bool),
 ∃ (a : Option Addr),
 ∃ (n : Nat),
 ∃ (m : Nat),
 v = agg #[Value.bool b, slice a n m] ∧
 Heap.canSt h t6 0 2 ∧
 ∃ (b_5 : Bool),
 Heap.cell (Heap.setN h t6 0 [Value.bool b, slice a n m]) t6 0 = some (Value.bool b_5) ∧
 ∃ (a_6 : Option Addr),
 ∃ (n_5 : Nat),
 ∃ (m_5 : Nat),
 Heap.cell (Heap.setN h t6 0 [Value.bool b, slice a n m]) t6 1 = some (slice a_6 n_5 m_5) ∧
 Ret (Heap.setN h t6 0 [Value.bool b, slice a n m]) K (agg #[Value.bool b_5, slice a_6 n_5 m_5]))
 (∃ (b_3 : Bool),
 Heap.cell (Heap.setN h q 0 [Value.bool b, slice a_2 n m]) q 0 = some (Value.bool b_3) ∧
 ∃ (a : Option Addr),
 ∃ (n_3 : Nat),
 ∃ (m_3 : Nat),
 Heap.cell (Heap.setN h q 0 [Value.bool b, slice a_2 n m]) q 1 = some (slice a n_3 m_3) ∧
 Heap.canSt (Heap.setN h q 0 [Value.bool b, slice a_2 n m]) t6 0 2 ∧
 ∃ (b_4 : Bool),
 Heap.cell (Heap.setN (Heap.setN h q 0 [Value.bool b, slice a_2 n m]) t6 0 [Value.bool b_3, slice a n_3 m_3]) t6 0 = some (Value.bool b_4) ∧
 ∃ (a_5 : Option Addr),
 ∃ (n_4 : Nat),
 ∃ (m_4 : Nat),
 Heap.cell (Heap.setN (Heap.setN h q 0 [Value.bool b, slice a_2 n m]) t6 0 [Value.bool b_3, slice a n_3 m_3]) t6 1 =
 some (slice a_5 n_4 m_4) ∧
 Ret (Heap.setN (Heap.setN h q 0 [Value.bool b, slice a_2 n m]) t6 0 [Value.bool b_3, slice a n_3 m_3]) K
 (agg #[Value.bool b_4, slice a_5 n_4 m_4])))
 (∃ (b_3 : Bool),
 Heap.cell (Heap.setN h q 0 [Value.bool b, slice a_2 n m]) q 0 = some (Value.bool b_3) ∧
 ∃ (a : Option Addr),
 ∃ (n_3 : Nat),
 ∃ (m_3 : Nat),
 Heap.cell (Heap.setN h q 0 [Value.bool b, slice a_2 n m]) q 1 = some (slice a n_3 m_3) ∧
 Heap.canSt (Heap.setN h q 0 [Value.bool b, slice a_2 n m]) t6 0 2 ∧
 ∃ (b_4 : Bool),
 Heap.cell (Heap.setN (Heap.setN h q 0 [Value.bool b, slice a_2 n m]) t6 0 [Value.bool b_3, slice a n_3 m_3]) t6 0 = some (Value.bool b_4) ∧
 ∃ (a_5 : Option Addr),
 ∃ (n_4 : Nat),
 ∃ (m_4 : Nat),
 Heap.cell (Heap.setN (Heap.setN h q 0 [Value.bool b, slice a_2 n m]) t6 0 [Value.bool b_3, slice a n_3 m_3]) t6 1 =
 some (slice a_5 n_4 m_4) ∧
 Ret (Heap.setN (Heap.setN h q 0 [Value.bool b, slice a_2 n m]) t6 0 [Value.bool b_3, slice a n_3 m_3]) K
 (agg #[Value.bool b_4, slice a_5 n_4 m_4])))
 (∃ (b_2 : Bool),
 Heap.cell (Heap.setN h q 0 [Value.bool b, slice a_2 n m]) q 0 = some (Value.bool b_2) ∧
 ∃ (a : Option Addr),
 ∃ (n_3 : Nat),
 ∃ (m_3 : Nat),
 Heap.cell (Heap.setN h q 0 [Value.bool b, slice a_2 n m]) q 1 = some (slice a n_3 m_3) ∧
 Heap.canSt (Heap.setN h q 0 [Value.bool b, slice a_2 n m]) t6 0 2 ∧
 ∃ (b_3 : Bool),
 Heap.cell (Heap.setN (Heap.setN h q 0 [Value.bool b, slice a_2 n m]) t6 0 [Value.bool b_2, slice a n_3 m_3]) t6 0 = some (Value.bool b_3) ∧
 ∃ (a_5 : Option Addr),
 ∃ (n_4 : Nat),
 ∃ (m_4 : Nat),
 Heap.cell (Heap.setN (Heap.setN h q 0 [Value.bool b, slice a_2 n m]) t6 0 [Value.bool b_2, slice a n_3 m_3]) t6 1 =
 some (slice a_5 n_4 m_4) ∧
 Ret (Heap.setN (Heap.setN h q 0 [Value.bool b, slice a_2 n m]) t6 0 [Value.bool b_2, slice a n_3 m_3]) K
 (agg #[Value.bool b_3, slice a_5 n_4 m_4]))))
 (∃ (a_4 : Option Addr),
 ∃ (n_2 : Nat),
 ∃ (m_2 : Nat),
 Heap.cell (Heap.setN h q 0 [Value.bool b, slice a_2 n m]) rest 1 = some (slice a_4 n_2 m_2) ∧
 Br (decide ((↑n_2 : Int) > 0))
 (∃ (b_2 : Bool),
 Heap.cell (Heap.setN h q 0 [Value.bool b, slice a_2 n m]) a 0 = some (Value.bool b_2) ∧
 Br b_2
 (Br (!up)
 (∃ (b_3 : Bool),
 Heap.cell (Heap.setN h q 0 [Value.bool b, slice a_2 n m]) q 0 = some (Value.bool b_3) ∧
 ∃ (a : Option Addr),
 ∃ (n_3 : Nat),
 ∃ (m_3 : Nat),
 Heap.cell (Heap.setN h q 0 [Value.bool b, slice a_2 n m]) q 1 = some (slice a n_3 m_3) ∧
 CallA Tryz.prog fn_ref01_Of [int IntKind.i64 (-1)] (Heap.setN h q 0 [Value.bool b, slice a_2 n m]) fun (v : Value) (h_1 : Heap) =>
 ∃ (b_4 : Bool),
 ∃ (a_5 : Option Addr),
 ∃ (n_4 : Nat),
 ∃ (m_4 : Nat),
 v = agg #[Value.bool b_4, slice a_5 n_4 m_4] ∧
 (Heap.le (Heap.setN h q 0 [Value.bool b, slice a_2 n m]) h_1 ∨ Keeps [q] (Heap.setN h q 0 [Value.bool b, slice a_2 n m]) h_1) ∧
 CallA Tryz.prog fn_ref01_Add [agg #[Value.bool b_3, slice a n_3 m_3], agg #[Value.bool b_4, slice a_5 n_4 m_4]] h_1
 fun (v : Value) (h : Heap) =>
 ∃ (b : Bool),
 ∃ (a : Option Addr),
 ∃ (n : Nat),
 ∃ (m : Nat),
 v = agg #[Value.bool b, slice a n m] ∧
 Heap.canSt h t6 0 2 ∧
 ∃ (b_5 : Bool),
 Heap.cell (Heap.setN h t6 0 [Value.bool b, slice a n m]) t6 0 = some (Value.bool b_5) ∧
 ∃ (a_6 : Option Addr),
 ∃ (n_5 : Nat),
 ∃ (m_5 : Nat),
 Heap.cell (Heap.setN h t6 0 [Value.bool b, slice a n m]) t6 1 = some (slice a_6 n_5 m_5) ∧
 Ret (Heap.setN h t6 0 [Value.bool b, slice a n m]) K (agg #[Value.bool b_5, slice a_6 n_5 m_5]))
 (∃ (b_3 : Bool),
 Heap.cell (Heap.setN h q 0 [Value.bool b, slice a_2 n m]) q 0 = some (Value.bool b_3) ∧
 ∃ (a : Option Addr),
 ∃ (n_3 : Nat),
 ∃ (m_3 : Nat),
 Heap.cell (Heap.setN h q 0 [Value.bool b, slice a_2 n m]) q 1 = some (slice a n_3 m_3) ∧
 Heap.canSt (Heap.setN h q 0 [Value.bool b, slice a_2 n m]) t6 0 2 ∧
 ∃ (b_4 : Bool),
 Heap.cell (Heap.setN (Heap.setN h q 0 [Value.bool b, slice a_2 n m]) t6 0 [Value.bool b_3, slice a n_3 m_3]) t6 0 = some (Value.bool b_4) ∧
 ∃ (a_5 : Option Addr),
 ∃ (n_4 : Nat),
 ∃ (m_4 : Nat),
 Heap.cell (Heap.setN (Heap.setN h q 0 [Value.bool b, slice a_2 n m]) t6 0 [Value.bool b_3, slice a n_3 m_3]) t6 1 =
 some (slice a_5 n_4 m_4) ∧
 Ret (Heap.setN (Heap.setN h q 0 [Value.bool b, slice a_2 n m]) t6 0 [Value.bool b_3, slice a n_3 m_3]) K
 (agg #[Value.bool b_4, slice a_5 n_4 m_4])))
 (∃ (b_3 : Bool),
 Heap.cell (Heap.setN h q 0 [Value.bool b, slice a_2 n m]) q 0 = some (Value.bool b_3) ∧
 ∃ (a : Option Addr),
 ∃ (n_3 : Nat),
 ∃ (m_3 : Nat),
 Heap.cell (Heap.setN h q 0 [Value.bool b, slice a_2 n m]) q 1 = some (slice a n_3 m_3) ∧
 Heap.canSt (Heap.setN h q 0 [Value.bool b, slice a_2 n m]) t6 0 2 ∧
 ∃ (b_4 : Bool),
 Heap.cell (Heap.setN (Heap.setN h q 0 [Value.bool b, slice a_2 n m]) t6 0 [Value.bool b_3, slice a n_3 m_3]) t6 0 = some (Value.bool b_4) ∧
 ∃ (a_5 : Option Addr),
 ∃ (n_4 : Nat),
 ∃ (m_4 : Nat),
 Heap.cell (Heap.setN (Heap.setN h q 0 [Value.bool b, slice a_2 n m]) t6 0 [Value.bool b_3, slice a n_3 m_3]) t6 1 =
 some (slice a_5 n_4 m_4) ∧
 Ret (Heap.setN (Heap.setN h q 0 [Value.bool b, slice a_2 n m]) t6 0 [Value.bool b_3, slice a n_3 m_3]) K
 (agg #[Value.bool b_4, slice a_5 n_4 m_4])))
 (∃ (b_2 : Bool),
 Heap.cell (Heap.setN h q 0 [Value.bool b, slice a_2 n m]) q 0 = some (Value.bool b_2) ∧
 ∃ (a : Option Addr),
 ∃ (n_3 : Nat),
 ∃ (m_3 : Nat),
 Heap.cell (Heap.setN h q 0 [Value.bool b, slice a_2 n m]) q 1 = some (slice a n_3 m_3) ∧
 Heap.canSt (Heap.setN h q 0 [Value.bool b, slice a_2 n m]) t6 0 2 ∧
 ∃ (b_3 : Bool),
 Heap.cell (Heap.setN (Heap.setN h q 0 [Value.bool b, slice a_2 n m]) t6 0 [Value.bool b_2, slice a n_3 m_3]) t6 0 = some (Value.bool b_3) ∧
 ∃ (a_5 : Option Addr),
 ∃ (n_4 : Nat),
 ∃ (m_4 : Nat),
 Heap.cell (Heap.setN (Heap.setN h q 0 [Value.bool b, slice a_2 n m]) t6 0 [Value.bool b_2, slice a n_3 m_3]) t6 1 = some (slice a_5 n_4 m_4) ∧
 Ret (Heap.setN (Heap.setN h q 0 [Value.bool b, slice a_2 n m]) t6 0 [Value.bool b_2, slice a n_3 m_3]) K
 (agg #[Value.bool b_3, slice a_5 n_4 m_4]))))
 (∃ (a_4 : Option Addr),
 ∃ (n_2 : Nat),
 ∃ (m_2 : Nat),
 Heap.cell (Heap.setN h q 0 [Value.bool b, slice a_2 n m]) rest 1 = some (slice a_4 n_2 m_2) ∧
 Br (decide ((↑n_2 : Int) > 0))
 (∃ (b_1 : Bool),
 Heap.cell (Heap.setN h q 0 [Value.bool b, slice a_2 n m]) a 0 = some (Value.bool b_1) ∧
 Br b_1
 (Br (!up)
 (∃ (b_2 : Bool),
 Heap.cell (Heap.setN h q 0 [Value.bool b, slice a_2 n m]) q 0 = some (Value.bool b_2) ∧
 ∃ (a : Option Addr),
 ∃ (n_3 : Nat),
 ∃ (m_3 : Nat),
 Heap.cell (Heap.setN h q 0 [Value.bool b, slice a_2 n m]) q 1 = some (slice a n_3 m_3) ∧
 CallA Tryz.prog fn_ref01_Of [int IntKind.i64 (-1)] (Heap.setN h q 0 [Value.bool b, slice a_2 n m]) fun (v : Value) (h_1 : Heap) =>
 ∃ (b_3 : Bool),
 ∃ (a_5 : Option Addr),
 ∃ (n_4 : Nat),
 ∃ (m_4 : Nat),
 v = agg #[Value.bool b_3, slice a_5 n_4 m_4] ∧
 (Heap.le (Heap.setN h q 0 [Value.bool b, slice a_2 n m]) h_1 ∨ Keeps [q] (Heap.setN h q 0 [Value.bool b, slice a_2 n m]) h_1) ∧
 CallA Tryz.prog fn_ref01_Add [agg #[Value.bool b_2, slice a n_3 m_3], agg #[Value.bool b_3, slice a_5 n_4 m_4]] h_1
 fun (v : Value) (h : Heap) =>
 ∃ (b : Bool),
 ∃ (a : Option Addr),
 ∃ (n : Nat),
 ∃ (m : Nat),
 v = agg #[Value.bool b, slice a n m] ∧
 Heap.canSt h t6 0 2 ∧
 ∃ (b_4 : Bool),
 Heap.cell (Heap.setN h t6 0 [Value.bool b, slice a n m]) t6 0 = some (Value.bool b_4) ∧
 ∃ (a_6 : Option Addr),
 ∃ (n_5 : Nat),
 ∃ (m_5 : Nat),
 Heap.cell (Heap.setN h t6 0 [Value.bool b, slice a n m]) t6 1 = some (slice a_6 n_5 m_5) ∧
 Ret (Heap.setN h t6 0 [Value.bool b, slice a n m]) K (agg #[Value.bool b_4, slice a_6 n_5 m_5]))
 (∃ (b_2 : Bool),
 Heap.cell (Heap.setN h q 0 [Value.bool b, slice a_2 n m]) q 0 = some (Value.bool b_2) ∧
 ∃ (a : Option Addr),
 ∃ (n_3 : Nat),
 ∃ (m_3 : Nat),
 Heap.cell (Heap.setN h q 0 [Value.bool b, slice a_2 n m]) q 1 = some (slice a n_3 m_3) ∧
 Heap.canSt (Heap.setN h q 0 [Value.bool b, slice a_2 n m]) t6 0 2 ∧
 ∃ (b_3 : Bool),
 Heap.cell (Heap.setN (Heap.setN h q 0 [Value.bool b, slice a_2 n m]) t6 0 [Value.bool b_2, slice a n_3 m_3]) t6 0 = some (Value.bool b_3) ∧
 ∃ (a_5 : Option Addr),
 ∃ (n_4 : Nat),
 ∃ (m_4 : Nat),
 Heap.cell (Heap.setN (Heap.setN h q 0 [Value.bool b, slice a_2 n m]) t6 0 [Value.bool b_2, slice a n_3 m_3]) t6 1 =
 some (slice a_5 n_4 m_4) ∧
 Ret (Heap.setN (Heap.setN h q 0 [Value.bool b, slice a_2 n m]) t6 0 [Value.bool b_2, slice a n_3 m_3]) K
 (agg #[Value.bool b_3, slice a_5 n_4 m_4])))
 (∃ (b_2 : Bool),
 Heap.cell (Heap.setN h q 0 [Value.bool b, slice a_2 n m]) q 0 = some (Value.bool b_2) ∧
 ∃ (a : Option Addr),
 ∃ (n_3 : Nat),
 ∃ (m_3 : Nat),
 Heap.cell (Heap.setN h q 0 [Value.bool b, slice a_2 n m]) q 1 = some (slice a n_3 m_3) ∧
 Heap.canSt (Heap.setN h q 0 [Value.bool b, slice a_2 n m]) t6 0 2 ∧
 ∃ (b_3 : Bool),
 Heap.cell (Heap.setN (Heap.setN h q 0 [Value.bool b, slice a_2 n m]) t6 0 [Value.bool b_2, slice a n_3 m_3]) t6 0 = some (Value.bool b_3) ∧
 ∃ (a_5 : Option Addr),
 ∃ (n_4 : Nat),
 ∃ (m_4 : Nat),
 Heap.cell (Heap.setN (Heap.setN h q 0 [Value.bool b, slice a_2 n m]) t6 0 [Value.bool b_2, slice a n_3 m_3]) t6 1 = some (slice a_5 n_4 m_4) ∧
 Ret (Heap.setN (Heap.setN h q 0 [Value.bool b, slice a_2 n m]) t6 0 [Value.bool b_2, slice a n_3 m_3]) K
 (agg #[Value.bool b_3, slice a_5 n_4 m_4])))
 (∃ (b_1 : Bool),
 Heap.cell (Heap.setN h q 0 [Value.bool b, slice a_2 n m]) q 0 = some (Value.bool b_1) ∧
 ∃ (a : Option Addr),
 ∃ (n_3 : Nat),
 ∃ (m_3 : Nat),
 Heap.cell (Heap.setN h q 0 [Value.bool b, slice a_2 n m]) q 1 = some (slice a n_3 m_3) ∧
 Heap.canSt (Heap.setN h q 0 [Value.bool b, slice a_2 n m]) t6 0 2 ∧
 ∃ (b_2 : Bool),
 Heap.cell (Heap.setN (Heap.setN h q 0 [Value.bool b, slice a_2 n m]) t6 0 [Value.bool b_1, slice a n_3 m_3]) t6 0 = some (Value.bool b_2) ∧
 ∃ (a_5 : Option Addr),
 ∃ (n_4 : Nat),
 ∃ (m_4 : Nat),
 Heap.cell (Heap.setN (Heap.setN h q 0 [Value.bool b, slice a_2 n m]) t6 0 [Value.bool b_1, slice a n_3 m_3]) t6 1 = some (slice a_5 n_4 m_4) ∧
 Ret (Heap.setN (Heap.setN h q 0 [Value.bool b, slice a_2 n m]) t6 0 [Value.bool b_1, slice a n_3 m_3]) K
 (agg #[Value.bool b_2, slice a_5 n_4 m_4]))))
theorem L_ref01_Div_0r (up : Bool) (a : Nat) (b : Nat) (t6 : Nat) (rest : Nat) (q : Nat) (i : Int) (h : Heap) (K : Value → Heap → Prop) (k : L_ref01_Div_0T up a b t6 rest q i h K) : L_ref01_Div_0 up a b t6 rest q i h K :=
 LoopAt.of_ev (cs := []) Tryz.func122 mixed (fun junk => by kernel_rfl) k
def L_ref01_Div_1T (up : Bool) (a : Nat) (b : Nat) (t6 : Nat) (rest : Nat) (q : Nat) (i : Int) (h : Heap) (K : Value → Heap → Prop) : Prop :=
 ∃ (b_1 : Bool),
 Heap.cell h rest 0 = some (Value.bool b_1) ∧
 ∃ (a_1 : Option Addr),
 ∃ (n : Nat),
 ∃ (m : Nat),
 Heap.cell h rest 1 = some (slice a_1 n m) ∧
 ∃ (b_2 : Bool),
 Heap.cell h b 0 = some (Value.bool b_2) ∧
 ∃ (a_2 : Option Addr),
 ∃ (n_1 : Nat),
 ∃ (m_1 : Nat),
 Heap.cell h b 1 = some (slice a_2 n_1 m_1) ∧
 CallA Tryz.prog fn_ref01_larger [agg #[Value.bool b_1, slice a_1 n m], agg #[Value.bool b_2, slice a_2 n_1 m_1]] h fun (v : Value) (h : Heap) =>
 ∃ (n : Int), v = int IntKind.i64 n ∧ Br (decide (n ≥ 0)) (L_ref01_Div_2 up a b t6 rest q i 1 10000 h K) (L_ref01_Div_0 up a b t6 rest q (IntKind.wrap IntKind.i64 (i - 1)) h K)
theorem L_ref01_Div_1r (up : Bool) (a : Nat) (b : Nat) (t6 : Nat) (rest : Nat) (q : Nat) (i : Int) (h : Heap) (K : Value → Heap → Prop) (k : L_ref01_Div_1T up a b t6 rest q i h K) : L_ref01_Div_1 up a b t6 rest q i h K :=
 LoopAt.of_ev (cs := []) Tryz.func122 mixed (fun junk => by kernel_rfl) k
def L_ref01_Div_2T (up : Bool) (a : Nat) (b : Nat) (t6 : Nat) (rest : Nat) (q : Nat) (i : Int) (low : Int) (high : Int) (h : Heap) (K : Value → Heap → Prop) : Prop :=
 Br (decide (IntKind.wrap IntKind.i64 (high - low) > 1))
 (∃ (a_1 : Option Addr),
 ∃ (n : Nat),
 ∃ (m : Nat),
 Heap.cell h b 1 = some (slice a_1 n m) ∧
 ∃ (b_1 : Bool),
 Heap.cell h rest 0 = some (Value.bool b_1) ∧
 ∃ (a_2 : Option Addr),
 ∃ (n_1 : Nat),
 ∃ (m_1 : Nat),
 Heap.cell h rest 1 = some (slice a_2 n_1 m_1) ∧
 CallA Tryz.prog fn_ref01_Of [int IntKind.i64 (IntKind.wrap IntKind.i64 (Int.tdiv (IntKind.wrap IntKind.i64 (low + high)) 2))] h fun (v : Value) (h_1 : Heap) =>
 ∃ (b_2 : Bool),
 ∃ (a_3 : Option Addr),
 ∃ (n_2 : Nat),
 ∃ (m_2 : Nat),
 v = agg #[Value.bool b_2, slice a_3 n_2 m_2] ∧
 (Heap.le h h_1 ∨ Keeps [b, rest] h h_1) ∧
 CallA Tryz.prog fn_ref01_Mul [agg #[Value.bool b_2, slice a_3 n_2 m_2], agg #[Value.bool false, slice a_1 n m]] h_1 fun (v : Value) (h : Heap) =>
 ∃ (b_3 : Bool),
 ∃ (a_4 : Option Addr),
 ∃ (n : Nat),
 ∃ (m : Nat),
 v = agg #[Value.bool b_3, slice a_4 n m] ∧
 (Heap.le h_1 h ∨ Keeps [rest] h_1 h) ∧
 CallA Tryz.prog fn_ref01_larger [agg #[Value.bool b_3, slice a_4 n m], agg #[Value.bool b_1, slice a_2 n_1 m_1]] h fun (v : Value) (h : Heap) =>
 ∃ (n : Int),
 v = int IntKind.i64 n ∧
 Br (decide (n ≤ 0)) (L_ref01_Div_2 up a b t6 rest q i (IntKind.wrap IntKind.i64 (Int.tdiv (IntKind.wrap IntKind.i64 (low + high)) 2)) high h K)
 (L_ref01_Div_2 up a b t6 rest q i low (IntKind.wrap IntKind.i64 (Int.tdiv (IntKind.wrap IntKind.i64 (low + high)) 2)) h K))
 (∃ (a_1 : Option Addr),
 ∃ (n : Nat),
 ∃ (m : Nat),
 Heap.cell h q 1 = some (slice a_1 n m) ∧
 0 ≤ i ∧
 i < (↑n : Int) ∧
 withAddr a_1 fun (b_1 o : Nat) =>
 Heap.canSt h b_1 (o + Int.toNat i) 1 ∧
 ∃ (b_2 : Bool),
 Heap.cell (Heap.setN h b_1 (o + Int.toNat i) [int IntKind.i64 low]) rest 0 = some (Value.bool b_2) ∧
 ∃ (a_2 : Option Addr),
 ∃ (n : Nat),
 ∃ (m : Nat),
 Heap.cell (Heap.setN h b_1 (o + Int.toNat i) [int IntKind.i64 low]) rest 1 = some (slice a_2 n m) ∧
 ∃ (a_3 : Option Addr),
 ∃ (n_1 : Nat),
 ∃ (m_1 : Nat),
 Heap.cell (Heap.setN h b_1 (o + Int.toNat i) [int IntKind.i64 low]) b 1 = some (slice a_3 n_1 m_1) ∧
 CallA Tryz.prog fn_ref01_Of [int IntKind.i64 low] (Heap.setN h b_1 (o + Int.toNat i) [int IntKind.i64 low]) fun (v : Value) (h_1 : Heap) =>
 ∃ (b_3 : Bool),
 ∃ (a_4 : Option Addr),
 ∃ (n_2 : Nat),
 ∃ (m_2 : Nat),
 v = agg #[Value.bool b_3, slice a_4 n_2 m_2] ∧
 (Heap.le (Heap.setN h b_1 (o + Int.toNat i) [int IntKind.i64 low]) h_1 ∨ Keeps [rest, b] (Heap.setN h b_1 (o + Int.toNat i) [int IntKind.i64 low]) h_1) ∧
 CallA Tryz.prog fn_ref01_Mul [agg #[Value.bool b_3, slice a_4 n_2 m_2], agg #[Value.bool false, slice a_3 n_1 m_1]] h_1 fun (v : Value) (h : Heap) =>
 ∃ (b_4 : Bool),
 ∃ (a_5 : Option Addr),
 ∃ (n_3 : Nat),
 ∃ (m_3 : Nat),
 v = agg #[Value.bool b_4, slice a_5 n_3 m_3] ∧
 (Heap.le h_1 h ∨ Keeps [rest] h_1 h) ∧
 CallA Tryz.prog fn_ref01_Turned [agg #[Value.bool b_4, slice a_5 n_3 m_3]] h fun (v : Value) (h_2 : Heap) =>
 ∃ (b_5 : Bool),
 ∃ (a_6 : Option Addr),
 ∃ (n_4 : Nat),
 ∃ (m_4 : Nat),
 v = agg #[Value.bool b_5, slice a_6 n_4 m_4] ∧
 (Heap.le h h_2 ∨ Keeps [rest] h h_2) ∧
 CallA Tryz.prog fn_ref01_Add [agg #[Value.bool b_2, slice a_2 n m], agg #[Value.bool b_5, slice a_6 n_4 m_4]] h_2 fun (v : Value) (h : Heap) =>
 ∃ (b_6 : Bool),
 ∃ (a_7 : Option Addr),
 ∃ (n : Nat),
 ∃ (m : Nat),
 v = agg #[Value.bool b_6, slice a_7 n m] ∧
 Heap.canSt h rest 0 2 ∧ L_ref01_Div_1 up a b t6 rest q i (Heap.setN h rest 0 [Value.bool b_6, slice a_7 n m]) K)
theorem L_ref01_Div_2r (up : Bool) (a : Nat) (b : Nat) (t6 : Nat) (rest : Nat) (q : Nat) (i : Int) (low : Int) (high : Int) (h : Heap) (K : Value → Heap → Prop) (k : L_ref01_Div_2T up a b t6 rest q i low high h K) : L_ref01_Div_2 up a b t6 rest q i low high h K :=
 LoopAt.of_ev (cs := []) Tryz.func122 mixed (fun junk => by kernel_rfl) k
def F_ref01_DivT (a_0 : Bool) (a_1 : Option Addr) (a_1n : Nat) (a_1c : Nat) (b_0 : Bool) (b_1 : Option Addr) (b_1n : Nat) (b_1c : Nat) (up : Bool) (h : Heap) (K : Value → Heap → Prop) : Prop :=
 newB h [Value.bool a_0, slice a_1 a_1n a_1c] 126 fun (r : Nat) (h : Heap) =>
 newB h [Value.bool b_0, slice b_1 b_1n b_1c] 126 fun (r_1 : Nat) (h : Heap) =>
 newB h [Value.bool false, slice none 0 0] 126 fun (r_2 : Nat) (h : Heap) =>
 newB h [Value.bool false, slice none 0 0] 126 fun (r_3 : Nat) (h : Heap) =>
 Heap.canSt h r_3 0 2 ∧
 ∃ (b : Bool),
 Heap.cell (Heap.setN h r_3 0 [Value.bool false, slice none 0 0]) r 0 = some (Value.bool b) ∧
 ∃ (a : Option Addr),
 ∃ (n : Nat),
 ∃ (m : Nat),
 Heap.cell (Heap.setN h r_3 0 [Value.bool false, slice none 0 0]) r 1 = some (slice a n m) ∧
 0 ≤ (↑n : Int) ∧
 (↑n : Int) ≤ (↑n : Int) ∧
 (↑n : Int) ≤ 281474976710656 ∧
 8 * (↑n : Int) ≤ 281474976710656 ∧
 newB (Heap.setN h r_3 0 [Value.bool false, slice none 0 0]) (repL (Int.toNat (↑n : Int)) [int IntKind.i64 0]) 3 fun (r_4 : Nat) (h : Heap) =>
 newB h [Value.bool false, slice none 0 0] 126 fun (r_5 : Nat) (h : Heap) =>
 Heap.canSt h r_5 0 2 ∧
 ∃ (a : Option Addr),
 ∃ (n_1 : Nat),
 ∃ (m : Nat),
 Heap.cell (Heap.setN h r_5 0 [Value.bool b, slice (some { block := r_4, off := 0 }) (Int.toNat (↑n : Int)) (Int.toNat (↑n : Int))]) r 1 = some (slice a n_1 m) ∧
 L_ref01_Div_0 up r r_1 r_2 r_3 r_5 (IntKind.wrap IntKind.i64 ((↑n_1 : Int) - 1))
 (Heap.setN h r_5 0 [Value.bool b, slice (some { block := r_4, off := 0 }) (Int.toNat (↑n : Int)) (Int.toNat (↑n : Int))]) K
theorem F_ref01_Div (a_0 : Bool) (a_1 : Option Addr) (a_1n : Nat) (a_1c : Nat) (b_0 : Bool) (b_1 : Option Addr) (b_1n : Nat) (b_1c : Nat) (up : Bool) (h : Heap) (K : Value → Heap → Prop) (k : F_ref01_DivT a_0 a_1 a_1n a_1c b_0 b_1 b_1n b_1c up h K) : CallA Tryz.prog fn_ref01_Div [agg #[Value.bool a_0, slice a_1 a_1n a_1c], agg #[Value.bool b_0, slice b_1 b_1n b_1c], Value.bool up] h K :=
 CallA.of_ev (cs := []) Tryz.func122 (by kernel_rfl) (fun _ _ => Tryz.call122 _ _) mixed (by kernel_rfl) (by kernel_rfl) k
end Go.Proofs.YtghdadniddoboaaGreat
