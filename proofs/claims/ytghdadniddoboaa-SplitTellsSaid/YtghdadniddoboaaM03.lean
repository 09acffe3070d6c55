import Derived.Test.YtghdadniddoboaaProg
import Derived.Test.YtghdadniddoboaaM01
namespace Go.Proofs.Ytghdadniddoboaa
open Go Go.Sy Go.Value
set_option linter.unusedVariables false
set_option maxRecDepth 100000
theorem mixed : Try.prog.follows .mixedOrders = true := by kernel_rfl
abbrev fn_gosem_cut_init : Nat := 2
abbrev fn_law02_SplitTells : Nat := 3
abbrev fn_law02_SplitWhole : Nat := 4
abbrev fn_law02_SplitNear : Nat := 5
abbrev fn_law02_SplitFills : Nat := 6
abbrev fn_law09_WorthTells : Nat := 7
abbrev fn_law09_WorthKept : Nat := 8
abbrev fn_law09_WorthCuts : Nat := 9
abbrev fn_law10_RiskLimits : Nat := 10
abbrev fn_law10_RiskHolds : Nat := 11
abbrev fn_law10_RiskSpares : Nat := 12
abbrev fn_law02_awake : Nat := 13
abbrev fn_split_Shares : Nat := 14
abbrev fn_ref02_Shares : Nat := 15
abbrev fn_split_Even : Nat := 16
abbrev fn_ref02_Even : Nat := 17
abbrev fn_split_Fill : Nat := 18
abbrev fn_ref02_Fill : Nat := 19
abbrev fn_ref02_Same : Nat := 20
abbrev fn_money_Sum : Nat := 21
abbrev fn_money_MulDiv : Nat := 22
abbrev fn_money_Chain : Nat := 23
abbrev fn_law09_awake : Nat := 24
abbrev fn_law09_large : Nat := 25
abbrev fn_ledger_New : Nat := 26
abbrev fn_ref08_New : Nat := 27
abbrev fn_worth_New : Nat := 28
abbrev fn_ref03_Check : Nat := 29
abbrev fn_pref08_Ledger_Copy : Nat := 30
abbrev fn_law09_do : Nat := 31
abbrev fn_pref08_Ledger_In : Nat := 32
abbrev fn_pref08_Ledger_Post : Nat := 33
abbrev fn_ref03_With : Nat := 34
abbrev fn_ref03_Same : Nat := 35
abbrev fn_pworth_Worths_Table : Nat := 36
abbrev fn_pworth_Worths_Net : Nat := 37
abbrev fn_pworth_Worths_Short : Nat := 38
abbrev fn_pworth_Worths_If : Nat := 39
abbrev fn_ref09_Net : Nat := 40
abbrev fn_ref09_Short : Nat := 41
abbrev fn_ref09_If : Nat := 42
abbrev fn_pworth_Worths_Cut : Nat := 43
abbrev fn_law10_awake : Nat := 44
abbrev fn_law10_large : Nat := 45
abbrev fn_law10_made : Nat := 46
abbrev fn_prisk_Guard_In : Nat := 47
abbrev fn_prisk_Guard_Fails : Nat := 48
abbrev fn_prisk_Guard_Flagged : Nat := 49
abbrev fn_law10_do : Nat := 50
abbrev fn_prisk_Guard_Ledger : Nat := 51
abbrev fn_pledger_Ledger_Get : Nat := 52
abbrev fn_slices_ContainsFunc_int64_int64 : Nat := 53
abbrev fn_split_below : Nat := 54
abbrev fn_split_Shares_1 : Nat := 55
abbrev fn_split_rest : Nat := 56
abbrev fn_slices_SortFunc_int_int : Nat := 57
abbrev fn_split_by_order : Nat := 58
abbrev fn_ref01_Total : Nat := 59
abbrev fn_ref01_Fit : Nat := 60
abbrev fn_ref01_Mul : Nat := 61
abbrev fn_ref01_Of : Nat := 62
abbrev fn_ref01_Div : Nat := 63
abbrev fn_ref01_Add : Nat := 64
abbrev fn_ref01_Turned : Nat := 65
abbrev fn_ref01_Cmp : Nat := 66
abbrev fn_slices_Repeat_int64_int64 : Nat := 67
abbrev fn_money_product : Nat := 68
abbrev fn_money_size : Nat := 69
abbrev fn_money_quotient : Nat := 70
abbrev fn_money_signed : Nat := 71
abbrev fn_money_Add : Nat := 72
abbrev fn_pledger_Ledger_In : Nat := 73
abbrev fn_pledger_Ledger_Post : Nat := 74
abbrev fn_pworth_Worths_Rate : Nat := 75
abbrev fn_table_Check : Nat := 76
abbrev fn_pledger_Ledger_Size : Nat := 77
abbrev fn_slices_Clone_api_Currency_api_Currency : Nat := 78
abbrev fn_pworth_Worths_Moved : Nat := 79
abbrev fn_ref03_capital : Nat := 80
abbrev fn_pref08_Ledger_Has : Nat := 81
abbrev fn_pworth_Worths_has : Nat := 82
abbrev fn_pworth_Worths_If_1 : Nat := 83
abbrev fn_slices_ContainsFunc_api_Posting_api_Posting : Nat := 84
abbrev fn_slices_Clone_int64_int64 : Nat := 85
abbrev fn_slices_Equal_int64_int64 : Nat := 86
abbrev fn_pworth_Worths_account : Nat := 87
abbrev fn_ref03_Worth : Nat := 88
abbrev fn_ref01_Chain : Nat := 89
abbrev fn_ref03_Plain : Nat := 90
abbrev fn_table_WithCut : Nat := 91
abbrev fn_pworth_Worths_turn : Nat := 92
abbrev fn_risk_New : Nat := 93
abbrev fn_prisk_Guard_Book : Nat := 94
abbrev fn_prisk_Guard_Rate : Nat := 95
abbrev fn_prisk_Guard_Out : Nat := 96
abbrev fn_prisk_Guard_has : Nat := 97
abbrev fn_prisk_Guard_sums : Nat := 98
abbrev fn_prisk_Guard_Cut : Nat := 99
abbrev fn_prisk_Guard_Take : Nat := 100
abbrev fn_prisk_Guard_Swap : Nat := 101
abbrev fn_pledger_Ledger_has : Nat := 102
abbrev fn_slices_IndexFunc_int64_int64 : Nat := 103
abbrev fn_slices_pdqsortCmpFunc_int : Nat := 104
abbrev fn_math_bits_Len : Nat := 105
abbrev fn_cmp_Or_int : Nat := 106
abbrev fn_cmp_Compare_int64 : Nat := 107
abbrev fn_cmp_Compare_int : Nat := 108
abbrev fn_ref01_digit : Nat := 109
abbrev fn_ref01_trim : Nat := 110
abbrev fn_ref01_larger : Nat := 111
abbrev fn_math_bits_Mul : Nat := 112
abbrev fn_pledger_Ledger_even : Nat := 113
abbrev fn_table_WithRate : Nat := 114
abbrev fn_table_formed : Nat := 115
abbrev fn_table_Find : Nat := 116
abbrev fn_table_fits : Nat := 117
abbrev fn_slices_IndexFunc_api_Posting_api_Posting : Nat := 118
abbrev fn_pworth_Worths_one : Nat := 119
abbrev fn_worth_chain : Nat := 120
abbrev fn_ref01_MulDiv : Nat := 121
abbrev fn_table_has : Nat := 122
abbrev fn_table_with : Nat := 123
abbrev fn_risk_New_1 : Nat := 124
abbrev fn_risk_fits : Nat := 125
abbrev fn_slices_ContainsFunc_api_Limit_api_Limit : Nat := 126
abbrev fn_prisk_Guard_judge : Nat := 127
abbrev fn_ledger_Read : Nat := 128
abbrev fn_pledger_Ledger_Text : Nat := 129
abbrev fn_risk_moved : Nat := 130
abbrev fn_slices_ContainsFunc_int_int : Nat := 131
abbrev fn_prisk_Guard_Book_1 : Nat := 132
abbrev fn_pledger_Ledger_Nostro : Nat := 133
abbrev fn_pledger_Ledger_Out : Nat := 134
abbrev fn_prisk_Guard_anew : Nat := 135
abbrev fn_pledger_Ledger_Swap : Nat := 136
abbrev fn_slices_insertionSortCmpFunc_int : Nat := 137
abbrev fn_slices_heapSortCmpFunc_int : Nat := 138
abbrev fn_slices_breakPatternsCmpFunc_int : Nat := 139
abbrev fn_slices_choosePivotCmpFunc_int : Nat := 140
abbrev fn_slices_reverseRangeCmpFunc_int : Nat := 141
abbrev fn_slices_partialInsertionSortCmpFunc_int : Nat := 142
abbrev fn_slices_partitionEqualCmpFunc_int : Nat := 143
abbrev fn_slices_partitionCmpFunc_int : Nat := 144
abbrev fn_math_bits_Len32 : Nat := 145
abbrev fn_math_bits_Len64 : Nat := 146
abbrev fn_cmp_isNaN_int64 : Nat := 147
abbrev fn_cmp_isNaN_int : Nat := 148
abbrev fn_math_bits_Mul32 : Nat := 149
abbrev fn_math_bits_Mul64 : Nat := 150
abbrev fn_slices_IndexFunc_api_Currency_api_Currency : Nat := 151
abbrev fn_table_Find_1 : Nat := 152
abbrev fn_table_Worth : Nat := 153
abbrev fn_table_Plain : Nat := 154
abbrev fn_money_Sub : Nat := 155
abbrev fn_slices_Min_int64_int64 : Nat := 156
abbrev fn_slices_IndexFunc_api_Limit_api_Limit : Nat := 157
abbrev fn_ledger_Read_1 : Nat := 158
abbrev fn_pstrings_Builder_WriteByte : Nat := 159
abbrev fn_ledger_lay : Nat := 160
abbrev fn_pstrings_Builder_String : Nat := 161
abbrev fn_slices_Contains_int_int : Nat := 162
abbrev fn_slices_IndexFunc_int_int : Nat := 163
abbrev fn_slices_siftDownCmpFunc_int : Nat := 164
abbrev fn_slices_nextPowerOfTwo : Nat := 165
abbrev fn_pslices_xorshift_Next : Nat := 166
abbrev fn_slices_medianAdjacentCmpFunc_int : Nat := 167
abbrev fn_slices_medianCmpFunc_int : Nat := 168
abbrev fn_pstrings_Builder_copyCheck : Nat := 169
abbrev fn_slices_Index_int_int : Nat := 170
abbrev fn_slices_order2CmpFunc_int : Nat := 171
end Go.Proofs.Ytghdadniddoboaa

namespace Go.Proofs.Ytghdadniddoboaa
open Go Go.Sy Go.Value
set_option linter.unusedVariables false
set_option maxRecDepth 100000
def F_law02_SplitTellsT (total : Int) (weights : Option Addr) (weightsn : Nat) (weightsc : Nat) (parts : Int) (h : Heap) (K : Value → Heap → Prop) : Prop :=
 CallA Try.prog fn_law02_awake [] h fun (v : Value) (h : Heap) =>
 ∃ (b : Bool),
 v = Value.bool b ∧
 Br (!b) (Ret h K (Value.bool false))
 (Br (decide ((↑weightsn : Int) > 70)) (Ret h K (Value.bool true))
 (CallA Try.prog fn_split_Shares [int IntKind.i64 total, slice weights weightsn weightsc] h fun (v : Value) (h : Heap) =>
 ∃ (a : Option Addr),
 ∃ (n : Nat),
 ∃ (m : Nat),
 ∃ (n_1 : Int),
 v = tuple #[slice a n m, int IntKind.i64 n_1] ∧
 CallA Try.prog fn_ref02_Shares [int IntKind.i64 total, slice weights weightsn weightsc] h fun (v : Value) (h : Heap) =>
 ∃ (a_1 : Option Addr),
 ∃ (n_2 : Nat),
 ∃ (m_1 : Nat),
 ∃ (n_3 : Int),
 v = tuple #[slice a_1 n_2 m_1, int IntKind.i64 n_3] ∧
 CallA Try.prog fn_split_Even [int IntKind.i64 total, int IntKind.i64 parts] h fun (v : Value) (h : Heap) =>
 ∃ (a_2 : Option Addr),
 ∃ (n_4 : Nat),
 ∃ (m_2 : Nat),
 ∃ (n_5 : Int),
 v = tuple #[slice a_2 n_4 m_2, int IntKind.i64 n_5] ∧
 CallA Try.prog fn_ref02_Even [int IntKind.i64 total, int IntKind.i64 parts] h fun (v : Value) (h : Heap) =>
 ∃ (a_3 : Option Addr),
 ∃ (n_6 : Nat),
 ∃ (m_3 : Nat),
 ∃ (n_7 : Int),
 v = tuple #[slice a_3 n_6 m_3, int IntKind.i64 n_7] ∧
 CallA Try.prog fn_split_Fill [int IntKind.i64 total, slice weights weightsn weightsc] h fun (v : Value) (h : Heap) =>
 ∃ (a_4 : Option Addr),
 ∃ (n_8 : Nat),
 ∃ (m_4 : Nat),
 ∃ (n_9 : Int),
 ∃ (n_10 : Int),
 v = tuple #[slice a_4 n_8 m_4, int IntKind.i64 n_9, int IntKind.i64 n_10] ∧
 CallA Try.prog fn_ref02_Fill [int IntKind.i64 total, slice weights weightsn weightsc] h fun (v : Value) (h : Heap) =>
 ∃ (a_5 : Option Addr),
 ∃ (n_11 : Nat),
 ∃ (m_5 : Nat),
 ∃ (n_12 : Int),
 ∃ (n_13 : Int),
 v = tuple #[slice a_5 n_11 m_5, int IntKind.i64 n_12, int IntKind.i64 n_13] ∧
 CallA Try.prog fn_ref02_Same [slice a n m, slice a_1 n_2 m_1] h fun (v : Value) (h : Heap) =>
 ∃ (b : Bool),
 v = Value.bool b ∧
 Br b
 (Br (n_1 == n_3)
 (CallA Try.prog fn_ref02_Same [slice a_2 n_4 m_2, slice a_3 n_6 m_3] h fun (v : Value) (h : Heap) =>
 ∃ (b : Bool),
 v = Value.bool b ∧
 Br b
 (Br (n_5 == n_7)
 (CallA Try.prog fn_ref02_Same [slice a_4 n_8 m_4, slice a_5 n_11 m_5] h fun (v : Value) (h : Heap) =>
 ∃ (b : Bool),
 v = Value.bool b ∧
 Br b (Br (n_9 == n_12) (Ret h K (Value.bool (n_10 == n_13))) (Ret h K (Value.bool false)))
 (Ret h K (Value.bool false)))
 (Ret h K (Value.bool false)))
 (Ret h K (Value.bool false)))
 (Ret h K (Value.bool false)))
 (Ret h K (Value.bool false))))
theorem F_law02_SplitTells (total : Int) (weights : Option Addr) (weightsn : Nat) (weightsc : Nat) (parts : Int) (h : Heap) (K : Value → Heap → Prop) (k : F_law02_SplitTellsT total weights weightsn weightsc parts h K) : CallA Try.prog fn_law02_SplitTells [int IntKind.i64 total, slice weights weightsn weightsc, int IntKind.i64 parts] h K :=
 CallA.of_ev (cs := []) Try.func3 (by kernel_rfl) (fun _ _ => Try.call3 _ _) mixed (by kernel_rfl) (by kernel_rfl) k
end Go.Proofs.Ytghdadniddoboaa

namespace Go.Proofs.Ytghdadniddoboaa
open Go Go.Sy Go.Value
set_option linter.unusedVariables false
set_option maxRecDepth 100000
def L_ref02_Same_0 (a : Option Addr) (an : Nat) (ac : Nat) (b : Option Addr) (bn : Nat) (bc : Nat) (i : Int) (h : Heap) (K : Value → Heap → Prop) : Prop :=
 LoopAt Try.prog Try.f20 20 (loopK Try.f20 0) (sp 26 [(0, slice a an ac), (1, slice b bn bc), (5, int IntKind.i64 i)]) h K
def L_ref02_Same_0T (a : Option Addr) (an : Nat) (ac : Nat) (b : Option Addr) (bn : Nat) (bc : Nat) (i : Int) (h : Heap) (K : Value → Heap → Prop) : Prop :=
 Br (decide (i < (↑an : Int)))
 (0 ≤ i ∧
 i < (↑an : Int) ∧
 withAddr a fun (b_1 o : Nat) =>
 ∃ (n : Int),
 Heap.cell h b_1 (o + Int.toNat i) = some (int IntKind.i64 n) ∧
 0 ≤ i ∧
 i < (↑bn : Int) ∧
 withAddr b fun (b_2 o : Nat) =>
 ∃ (n_1 : Int), Heap.cell h b_2 (o + Int.toNat i) = some (int IntKind.i64 n_1) ∧ Br (n != n_1) (Ret h K (Value.bool false)) (L_ref02_Same_0 a an ac b bn bc (IntKind.wrap IntKind.i64 (i + 1)) h K))
 (Ret h K (Value.bool true))
theorem L_ref02_Same_0r (a : Option Addr) (an : Nat) (ac : Nat) (b : Option Addr) (bn : Nat) (bc : Nat) (i : Int) (h : Heap) (K : Value → Heap → Prop) (k : L_ref02_Same_0T a an ac b bn bc i h K) : L_ref02_Same_0 a an ac b bn bc i h K :=
 LoopAt.of_ev (cs := []) Try.func20 mixed (fun junk => by kernel_rfl) k
def F_ref02_SameT (a : Option Addr) (an : Nat) (ac : Nat) (b : Option Addr) (bn : Nat) (bc : Nat) (h : Heap) (K : Value → Heap → Prop) : Prop :=
 Br ((↑an : Int) != (↑bn : Int)) (Ret h K (Value.bool false)) (L_ref02_Same_0 a an ac b bn bc 0 h K)
theorem F_ref02_Same (a : Option Addr) (an : Nat) (ac : Nat) (b : Option Addr) (bn : Nat) (bc : Nat) (h : Heap) (K : Value → Heap → Prop) (k : F_ref02_SameT a an ac b bn bc h K) : CallA Try.prog fn_ref02_Same [slice a an ac, slice b bn bc] h K :=
 CallA.of_ev (cs := []) Try.func20 (by kernel_rfl) (fun _ _ => Try.call20 _ _) mixed (by kernel_rfl) (by kernel_rfl) k
end Go.Proofs.Ytghdadniddoboaa

namespace Go.Proofs.Ytghdadniddoboaa
open Go Go.Sy Go.Value
set_option linter.unusedVariables false
set_option maxRecDepth 100000
def F_law02_awakeT (h : Heap) (K : Value → Heap → Prop) : Prop :=
 newB h [int IntKind.i64 1, int IntKind.i64 5, int IntKind.i64 1] 2 fun (r : Nat) (h : Heap) =>
 CallA Try.prog fn_split_Shares [int IntKind.i64 10, slice (some { block := r, off := 0 }) 3 3] h fun (v : Value) (h : Heap) =>
 ∃ (a : Option Addr),
 ∃ (n : Nat),
 ∃ (m : Nat),
 ∃ (n_1 : Int),
 v = tuple #[slice a n m, int IntKind.i64 n_1] ∧
 CallA Try.prog fn_split_Even [int IntKind.i64 10, int IntKind.i64 3] h fun (v : Value) (h : Heap) =>
 ∃ (a_1 : Option Addr),
 ∃ (n_2 : Nat),
 ∃ (m_1 : Nat),
 ∃ (n_3 : Int),
 v = tuple #[slice a_1 n_2 m_1, int IntKind.i64 n_3] ∧
 newB h [int IntKind.i64 3, int IntKind.i64 0, int IntKind.i64 4] 2 fun (r : Nat) (h : Heap) =>
 CallA Try.prog fn_split_Fill [int IntKind.i64 10, slice (some { block := r, off := 0 }) 3 3] h fun (v : Value) (h : Heap) =>
 ∃ (a_2 : Option Addr),
 ∃ (n_4 : Nat),
 ∃ (m_2 : Nat),
 ∃ (n_5 : Int),
 ∃ (n_6 : Int),
 v = tuple #[slice a_2 n_4 m_2, int IntKind.i64 n_5, int IntKind.i64 n_6] ∧
 newB h [int IntKind.i64 0] 2 fun (r : Nat) (h : Heap) =>
 CallA Try.prog fn_split_Shares [int IntKind.i64 10, slice (some { block := r, off := 0 }) 1 1] h fun (v : Value) (h : Heap) =>
 ∃ (a_3 : Option Addr),
 ∃ (n_7 : Nat),
 ∃ (m_3 : Nat),
 ∃ (n_8 : Int),
 v = tuple #[slice a_3 n_7 m_3, int IntKind.i64 n_8] ∧
 CallA Try.prog fn_split_Even [int IntKind.i64 1, int IntKind.i64 65] h fun (v : Value) (h : Heap) =>
 ∃ (a_4 : Option Addr),
 ∃ (n_9 : Nat),
 ∃ (m_4 : Nat),
 ∃ (n_10 : Int),
 v = tuple #[slice a_4 n_9 m_4, int IntKind.i64 n_10] ∧
 newB h [int IntKind.i64 2, int IntKind.i64 7, int IntKind.i64 1] 2 fun (r : Nat) (h : Heap) =>
 CallA Try.prog fn_ref02_Same [slice a n m, slice (some { block := r, off := 0 }) 3 3] h fun (v : Value) (h : Heap) =>
 ∃ (b : Bool),
 v = Value.bool b ∧
 Br b
 (Br (n_1 == 0)
 (newB h [int IntKind.i64 4, int IntKind.i64 3, int IntKind.i64 3] 2 fun (r : Nat) (h : Heap) =>
 CallA Try.prog fn_ref02_Same [slice a_1 n_2 m_1, slice (some { block := r, off := 0 }) 3 3] h fun (v : Value) (h : Heap) =>
 ∃ (b : Bool),
 v = Value.bool b ∧
 Br b
 (Br (n_3 == 0)
 (newB h [int IntKind.i64 3, int IntKind.i64 0, int IntKind.i64 4] 2 fun (r : Nat) (h : Heap) =>
 CallA Try.prog fn_ref02_Same [slice a_2 n_4 m_2, slice (some { block := r, off := 0 }) 3 3] h fun (v : Value) (h : Heap) =>
 ∃ (b : Bool),
 v = Value.bool b ∧
 Br b
 (Br (n_5 == 3)
 (Br (n_6 == 0) (Br (n_8 == 1) (Ret h K (Value.bool (n_10 == 4))) (Ret h K (Value.bool false)))
 (Ret h K (Value.bool false)))
 (Ret h K (Value.bool false)))
 (Ret h K (Value.bool false)))
 (Ret h K (Value.bool false)))
 (Ret h K (Value.bool false)))
 (Ret h K (Value.bool false)))
 (Ret h K (Value.bool false))
theorem F_law02_awake (h : Heap) (K : Value → Heap → Prop) (k : F_law02_awakeT h K) : CallA Try.prog fn_law02_awake [] h K :=
 CallA.of_ev (cs := []) Try.func13 (by kernel_rfl) (fun _ _ => Try.call13 _ _) mixed (by kernel_rfl) (by kernel_rfl) k
end Go.Proofs.Ytghdadniddoboaa

namespace Go.Proofs.Ytghdadniddoboaa
open Go Go.Sy Go.Value
set_option linter.unusedVariables false
set_option maxRecDepth 100000
def L_split_Shares_0 (total : Int) (sum : Int) (b : Nat) (shares : Option Addr) (sharesn : Nat) (sharesc : Nat) (who : Option Addr) (whon : Nat) (whoc : Nat) (missing : Int) (t43 : Option Addr) (t43n : Nat) (t43c : Nat) (t44 : Int) (t45 : Int) (h : Heap) (K : Value → Heap → Prop) : Prop :=
 LoopAt Try.prog Try.f14 14 (loopK Try.f14 0) (sp 99 [(0, int IntKind.i64 total), (6, int IntKind.i64 sum), (8, pointer (some { block := b, off := 0 })), (9, slice shares sharesn sharesc), (10, slice who whon whoc), (11, int IntKind.i64 missing), (43, slice t43 t43n t43c),
 (44, int IntKind.i64 t44), (45, int IntKind.i64 t45)]) h K
def L_split_Shares_1 (shares : Option Addr) (sharesn : Nat) (sharesc : Nat) (t85 : Option Addr) (t85n : Nat) (t85c : Nat) (t86 : Int) (t87 : Int) (h : Heap) (K : Value → Heap → Prop) : Prop :=
 LoopAt Try.prog Try.f14 14 (loopK Try.f14 1) (sp 99 [(9, slice shares sharesn sharesc), (85, slice t85 t85n t85c), (86, int IntKind.i64 t86), (87, int IntKind.i64 t87)]) h K
def L_split_Shares_0T (total : Int) (sum : Int) (b : Nat) (shares : Option Addr) (sharesn : Nat) (sharesc : Nat) (who : Option Addr) (whon : Nat) (whoc : Nat) (missing : Int) (t43 : Option Addr) (t43n : Nat) (t43c : Nat) (t44 : Int) (t45 : Int) (h : Heap) (K : Value → Heap → Prop) : Prop :=
 Br (decide (t45 < t44))
 (0 ≤ t45 ∧
 t45 < (↑t43n : Int) ∧
 withAddr t43 fun (b_1 o : Nat) =>
 ∃ (n : Int),
 Heap.cell h b_1 (o + Int.toNat t45) = some (int IntKind.i64 n) ∧
 CallA Try.prog fn_money_MulDiv [int IntKind.i64 total, int IntKind.i64 n, int IntKind.i64 sum, Value.bool false] h fun (v : Value) (h : Heap) =>
 ∃ (n_1 : Int),
 ∃ (n_2 : Int),
 v = tuple #[int IntKind.i64 n_1, int IntKind.i64 n_2] ∧
 newB h [int IntKind.i64 n_1] 2 fun (r : Nat) (h : Heap) =>
 AppA [int IntKind.i64 0] 2 h shares sharesn sharesc 1 (some { block := r, off := 0 }) fun (ap : Option Addr) (cp : Nat) (h : Heap) =>
 ∃ (a : Option Addr),
 ∃ (n_3 : Nat),
 ∃ (m : Nat),
 Heap.cell h b 0 = some (slice a n_3 m) ∧
 CallA Try.prog fn_split_rest [int IntKind.i64 total, int IntKind.i64 n, int IntKind.i64 n_1, int IntKind.i64 sum] h fun (v : Value) (h_1 : Heap) =>
 ∃ (n : Int),
 v = int IntKind.i64 n ∧
 (Heap.le h h_1 ∨ Keeps [b] h h_1) ∧
 newB h_1 [int IntKind.i64 n] 2 fun (r : Nat) (h : Heap) =>
 AppA [int IntKind.i64 0] 2 h a n_3 m 1 (some { block := r, off := 0 }) fun (ap_1 : Option Addr) (cp_1 : Nat) (h : Heap) =>
 Heap.canSt h b 0 1 ∧
 newB (Heap.setN h b 0 [slice ap_1 (n_3 + 1) cp_1]) [int IntKind.i64 t45] 3 fun (r : Nat) (h : Heap) =>
 AppA [int IntKind.i64 0] 3 h who whon whoc 1 (some { block := r, off := 0 }) fun (ap_2 : Option Addr) (cp_2 : Nat) (h : Heap) =>
 L_split_Shares_0 total sum b ap (sharesn + 1) cp ap_2 (whon + 1) cp_2 (IntKind.wrap IntKind.i64 (missing - n_1)) t43 t43n t43c t44 (IntKind.wrap IntKind.i64 (t45 + 1)) h K)
 (∃ (a : Option Addr),
 ∃ (n : Nat),
 ∃ (m : Nat),
 Heap.cell h b 0 = some (slice a n m) ∧
 CallA Try.prog fn_slices_SortFunc_int_int [slice who whon whoc, func (Fn.func fn_split_by_order) #[agg #[slice a n m]] #[]] h fun (v : Value) (h : Heap) =>
 v = tuple #[] ∧ 0 ≤ missing ∧ missing ≤ (↑whoc : Int) ∧ L_split_Shares_1 shares sharesn sharesc who (Int.toNat missing) whoc (↑(Int.toNat missing) : Int) 0 h K)
theorem L_split_Shares_0r (total : Int) (sum : Int) (b : Nat) (shares : Option Addr) (sharesn : Nat) (sharesc : Nat) (who : Option Addr) (whon : Nat) (whoc : Nat) (missing : Int) (t43 : Option Addr) (t43n : Nat) (t43c : Nat) (t44 : Int) (t45 : Int) (h : Heap) (K : Value → Heap → Prop) (k : L_split_Shares_0T total sum b shares sharesn sharesc who whon whoc missing t43 t43n t43c t44 t45 h K) : L_split_Shares_0 total sum b shares sharesn sharesc who whon whoc missing t43 t43n t43c t44 t45 h K :=
 LoopAt.of_ev (cs := []) Try.func14 mixed (fun junk => by kernel_rfl) k
def L_split_Shares_1T (shares : Option Addr) (sharesn : Nat) (sharesc : Nat) (t85 : Option Addr) (t85n : Nat) (t85c : Nat) (t86 : Int) (t87 : Int) (h : Heap) (K : Value → Heap → Prop) : Prop :=
 Br (decide (t87 < t86))
 (0 ≤ t87 ∧
 t87 < (↑t85n : Int) ∧
 withAddr t85 fun (b o : Nat) =>
 ∃ (n : Int),
 Heap.cell h b (o + Int.toNat t87) = some (int IntKind.i64 n) ∧
 0 ≤ n ∧
 n < (↑sharesn : Int) ∧
 withAddr shares fun (b o : Nat) =>
 ∃ (n_1 : Int),
 Heap.cell h b (o + Int.toNat n) = some (int IntKind.i64 n_1) ∧
 0 ≤ n ∧
 n < (↑sharesn : Int) ∧
 withAddr shares fun (b o : Nat) =>
 Heap.canSt h b (o + Int.toNat n) 1 ∧
 L_split_Shares_1 shares sharesn sharesc t85 t85n t85c t86 (IntKind.wrap IntKind.i64 (t87 + 1)) (Heap.setN h b (o + Int.toNat n) [int IntKind.i64 (IntKind.wrap IntKind.i64 (n_1 + 1))]) K)
 (Ret h K (tuple #[slice shares sharesn sharesc, int IntKind.i64 0]))
theorem L_split_Shares_1r (shares : Option Addr) (sharesn : Nat) (sharesc : Nat) (t85 : Option Addr) (t85n : Nat) (t85c : Nat) (t86 : Int) (t87 : Int) (h : Heap) (K : Value → Heap → Prop) (k : L_split_Shares_1T shares sharesn sharesc t85 t85n t85c t86 t87 h K) : L_split_Shares_1 shares sharesn sharesc t85 t85n t85c t86 t87 h K :=
 LoopAt.of_ev (cs := []) Try.func14 mixed (fun junk => by kernel_rfl) k
def F_split_SharesT (total : Int) (weights : Option Addr) (weightsn : Nat) (weightsc : Nat) (h : Heap) (K : Value → Heap → Prop) : Prop :=
 Br (decide ((↑weightsn : Int) > 64)) (Ret h K (tuple #[slice none 0 0, int IntKind.i64 4]))
 (Br (decide (total < 0)) (Ret h K (tuple #[slice none 0 0, int IntKind.i64 1]))
 (CallA Try.prog fn_slices_ContainsFunc_int64_int64 [slice weights weightsn weightsc, func (Fn.func fn_split_below) #[] #[]] h fun (v : Value) (h : Heap) =>
 ∃ (b : Bool),
 v = Value.bool b ∧
 Br b (Ret h K (tuple #[slice none 0 0, int IntKind.i64 1]))
 (CallA Try.prog fn_slices_ContainsFunc_int64_int64 [slice weights weightsn weightsc, func (Fn.func fn_split_Shares_1) #[] #[]] h fun (v : Value) (h : Heap) =>
 ∃ (b : Bool),
 v = Value.bool b ∧
 Br (!b) (Ret h K (tuple #[slice none 0 0, int IntKind.i64 1]))
 (CallA Try.prog fn_money_Sum [slice weights weightsn weightsc] h fun (v : Value) (h : Heap) =>
 ∃ (n : Int),
 ∃ (n_1 : Int),
 v = tuple #[int IntKind.i64 n, int IntKind.i64 n_1] ∧
 Br (n_1 != 0) (Ret h K (tuple #[slice none 0 0, int IntKind.i64 n_1]))
 (newB h [slice none 0 0] 96 fun (r : Nat) (h : Heap) => L_split_Shares_0 total n r none 0 0 none 0 0 total weights weightsn weightsc (↑weightsn : Int) 0 h K)))))
theorem F_split_Shares (total : Int) (weights : Option Addr) (weightsn : Nat) (weightsc : Nat) (h : Heap) (K : Value → Heap → Prop) (k : F_split_SharesT total weights weightsn weightsc h K) : CallA Try.prog fn_split_Shares [int IntKind.i64 total, slice weights weightsn weightsc] h K :=
 CallA.of_ev (cs := []) Try.func14 (by kernel_rfl) (fun _ _ => Try.call14 _ _) mixed (by kernel_rfl) (by kernel_rfl) k
def F_split_EvenT (total : Int) (parts : Int) (h : Heap) (K : Value → Heap → Prop) : Prop :=
 Br (decide (parts > 64)) (Ret h K (tuple #[slice none 0 0, int IntKind.i64 4]))
 (Br (decide (total < 0)) (Ret h K (tuple #[slice none 0 0, int IntKind.i64 1]))
 (Br (decide (parts < 1)) (Ret h K (tuple #[slice none 0 0, int IntKind.i64 1]))
 (newB h [int IntKind.i64 1] 2 fun (r : Nat) (h : Heap) =>
 CallA Try.prog fn_slices_Repeat_int64_int64 [slice (some { block := r, off := 0 }) 1 1, int IntKind.i64 parts] h fun (v : Value) (h : Heap) =>
 ∃ (a : Option Addr),
 ∃ (n : Nat),
 ∃ (m : Nat),
 v = slice a n m ∧
 CallA Try.prog fn_split_Shares [int IntKind.i64 total, slice a n m] h fun (v : Value) (h : Heap) =>
 ∃ (a : Option Addr), ∃ (n : Nat), ∃ (m : Nat), ∃ (n_1 : Int), v = tuple #[slice a n m, int IntKind.i64 n_1] ∧ Ret h K (tuple #[slice a n m, int IntKind.i64 n_1]))))
theorem F_split_Even (total : Int) (parts : Int) (h : Heap) (K : Value → Heap → Prop) (k : F_split_EvenT total parts h K) : CallA Try.prog fn_split_Even [int IntKind.i64 total, int IntKind.i64 parts] h K :=
 CallA.of_ev (cs := []) Try.func16 (by kernel_rfl) (fun _ _ => Try.call16 _ _) mixed (by kernel_rfl) (by kernel_rfl) k
def L_slices_Repeat_int64_int64_0 (newslice : Option Addr) (newslicen : Nat) (newslicec : Nat) (n : Int) (h : Heap) (K : Value → Heap → Prop) : Prop :=
 LoopAt Try.prog Try.f67 67 (loopK Try.f67 0) (sp 48 [(7, slice newslice newslicen newslicec), (8, int IntKind.i64 n)]) h K
def L_slices_Repeat_int64_int64_0T (newslice : Option Addr) (newslicen : Nat) (newslicec : Nat) (n : Int) (h : Heap) (K : Value → Heap → Prop) : Prop :=
 Br (decide (n < (↑newslicen : Int)))
 (0 ≤ n ∧
 n ≤ (↑newslicen : Int) ∧
 0 ≤ n ∧
 n ≤ (↑newslicec : Int) ∧
 CopyA 1 h (slAddr newslice (Int.toNat n) newslicec 1) newslice (min (Int.toNat n) (newslicen - Int.toNat n)) fun (h : Heap) =>
 L_slices_Repeat_int64_int64_0 newslice newslicen newslicec (IntKind.wrap IntKind.i64 (n + (↑(min (Int.toNat n) (newslicen - Int.toNat n)) : Int))) h K)
 (Ret h K (slice newslice newslicen newslicec))
theorem L_slices_Repeat_int64_int64_0r (newslice : Option Addr) (newslicen : Nat) (newslicec : Nat) (n : Int) (h : Heap) (K : Value → Heap → Prop) (k : L_slices_Repeat_int64_int64_0T newslice newslicen newslicec n h K) : L_slices_Repeat_int64_int64_0 newslice newslicen newslicec n h K :=
 LoopAt.of_ev (cs := []) Try.func67 mixed (fun junk => by kernel_rfl) k
def F_slices_Repeat_int64_int64T (x : Option Addr) (xn : Nat) (xc : Nat) (count : Int) (h : Heap) (K : Value → Heap → Prop) : Prop :=
 Br (decide (count < 0)) False
 (CallA Try.prog fn_math_bits_Mul [int IntKind.u64 (IntKind.wrap IntKind.u64 (↑xn : Int)), int IntKind.u64 (IntKind.wrap IntKind.u64 count)] h fun (v : Value) (h : Heap) =>
 ∃ (n : Int),
 ∃ (n_1 : Int),
 v = tuple #[int IntKind.u64 n, int IntKind.u64 n_1] ∧
 Br (decide (n > 0)) False
 (Br (decide (n_1 > 9223372036854775807)) False
 (0 ≤ IntKind.wrap IntKind.i64 n_1 ∧
 IntKind.wrap IntKind.i64 n_1 ≤ IntKind.wrap IntKind.i64 n_1 ∧
 IntKind.wrap IntKind.i64 n_1 ≤ 281474976710656 ∧
 8 * IntKind.wrap IntKind.i64 n_1 ≤ 281474976710656 ∧
 newB h (repL (Int.toNat (IntKind.wrap IntKind.i64 n_1)) [int IntKind.i64 0]) 2 fun (r : Nat) (h : Heap) =>
 CopyA 1 h (some { block := r, off := 0 }) x (min xn (Int.toNat (IntKind.wrap IntKind.i64 n_1))) fun (h : Heap) =>
 L_slices_Repeat_int64_int64_0 (some { block := r, off := 0 }) (Int.toNat (IntKind.wrap IntKind.i64 n_1)) (Int.toNat (IntKind.wrap IntKind.i64 n_1)) (↑(min xn (Int.toNat (IntKind.wrap IntKind.i64 n_1))) : Int) h K)))
theorem F_slices_Repeat_int64_int64 (x : Option Addr) (xn : Nat) (xc : Nat) (count : Int) (h : Heap) (K : Value → Heap → Prop) (k : F_slices_Repeat_int64_int64T x xn xc count h K) : CallA Try.prog fn_slices_Repeat_int64_int64 [slice x xn xc, int IntKind.i64 count] h K :=
 CallA.of_ev (cs := []) Try.func67 (by kernel_rfl) (fun _ _ => Try.call67 _ _) mixed (by kernel_rfl) (by kernel_rfl) k
def F_split_restT (total : Int) (weight : Int) (share : Int) (sum : Int) (h : Heap) (K : Value → Heap → Prop) : Prop :=
 Ret h K
 (int IntKind.i64
 (IntKind.wrap IntKind.i64
 (IntKind.wrap IntKind.u64 (IntKind.wrap IntKind.u64 (IntKind.wrap IntKind.u64 total * IntKind.wrap IntKind.u64 weight) - IntKind.wrap IntKind.u64 (IntKind.wrap IntKind.u64 share * IntKind.wrap IntKind.u64 sum)))))
theorem F_split_rest (total : Int) (weight : Int) (share : Int) (sum : Int) (h : Heap) (K : Value → Heap → Prop) (k : F_split_restT total weight share sum h K) : CallA Try.prog fn_split_rest [int IntKind.i64 total, int IntKind.i64 weight, int IntKind.i64 share, int IntKind.i64 sum] h K :=
 CallA.of_ev (cs := []) Try.func56 (by kernel_rfl) (fun _ _ => Try.call56 _ _) mixed (by kernel_rfl) (by kernel_rfl) k
def F_split_Shares_1T (w : Int) (h : Heap) (K : Value → Heap → Prop) : Prop :=
 Ret h K (Value.bool (decide (w > 0)))
theorem F_split_Shares_1 (w : Int) (h : Heap) (K : Value → Heap → Prop) (k : F_split_Shares_1T w h K) : CallA Try.prog fn_split_Shares_1 [int IntKind.i64 w] h K :=
 CallA.of_ev (cs := []) Try.func55 (by kernel_rfl) (fun _ _ => Try.call55 _ _) mixed (by kernel_rfl) (by kernel_rfl) k
def F_split_belowT (n : Int) (h : Heap) (K : Value → Heap → Prop) : Prop :=
 Ret h K (Value.bool (decide (n < 0)))
theorem F_split_below (n : Int) (h : Heap) (K : Value → Heap → Prop) (k : F_split_belowT n h K) : CallA Try.prog fn_split_below [int IntKind.i64 n] h K :=
 CallA.of_ev (cs := []) Try.func54 (by kernel_rfl) (fun _ _ => Try.call54 _ _) mixed (by kernel_rfl) (by kernel_rfl) k
def F_math_bits_MulT (x : Int) (y : Int) (h : Heap) (K : Value → Heap → Prop) : Prop :=
 CallA Try.prog fn_math_bits_Mul64 [int IntKind.u64 x, int IntKind.u64 y] h fun (v : Value) (h : Heap) =>
 ∃ (n : Int), ∃ (n_1 : Int), v = tuple #[int IntKind.u64 n, int IntKind.u64 n_1] ∧ Ret h K (tuple #[int IntKind.u64 n, int IntKind.u64 n_1])
theorem F_math_bits_Mul (x : Int) (y : Int) (h : Heap) (K : Value → Heap → Prop) (k : F_math_bits_MulT x y h K) : CallA Try.prog fn_math_bits_Mul [int IntKind.u64 x, int IntKind.u64 y] h K :=
 CallA.of_ev (cs := []) Try.func112 (by kernel_rfl) (fun _ _ => Try.call112 _ _) mixed (by kernel_rfl) (by kernel_rfl) k
def F_math_bits_Mul64T (x : Int) (y : Int) (h : Heap) (K : Value → Heap → Prop) : Prop :=
 Ret h K
 (tuple
 #[int IntKind.u64
 (IntKind.wrap IntKind.u64
 (IntKind.wrap IntKind.u64
 (IntKind.wrap IntKind.u64 (Int.fdiv x 4294967296 * Int.fdiv y 4294967296) +
 Int.fdiv
 (IntKind.wrap IntKind.u64
 (IntKind.wrap IntKind.u64 (Int.fdiv x 4294967296 * IntKind.wrap IntKind.u64 (↑(BitVec.toNat (BitVec.ofInt 64 y &&& BitVec.ofInt 64 4294967295)) : Int)) +
 Int.fdiv
 (IntKind.wrap IntKind.u64
 (IntKind.wrap IntKind.u64 (↑(BitVec.toNat (BitVec.ofInt 64 x &&& BitVec.ofInt 64 4294967295)) : Int) *
 IntKind.wrap IntKind.u64 (↑(BitVec.toNat (BitVec.ofInt 64 y &&& BitVec.ofInt 64 4294967295)) : Int)))
 4294967296))
 4294967296) +
 Int.fdiv
 (IntKind.wrap IntKind.u64
 (IntKind.wrap IntKind.u64
 (↑(BitVec.toNat
 (BitVec.ofInt 64
 (IntKind.wrap IntKind.u64
 (IntKind.wrap IntKind.u64 (Int.fdiv x 4294967296 * IntKind.wrap IntKind.u64 (↑(BitVec.toNat (BitVec.ofInt 64 y &&& BitVec.ofInt 64 4294967295)) : Int)) +
 Int.fdiv
 (IntKind.wrap IntKind.u64
 (IntKind.wrap IntKind.u64 (↑(BitVec.toNat (BitVec.ofInt 64 x &&& BitVec.ofInt 64 4294967295)) : Int) *
 IntKind.wrap IntKind.u64 (↑(BitVec.toNat (BitVec.ofInt 64 y &&& BitVec.ofInt 64 4294967295)) : Int)))
 4294967296)) &&&
 BitVec.ofInt 64 4294967295)) :
 Int) +
 IntKind.wrap IntKind.u64 (IntKind.wrap IntKind.u64 (↑(BitVec.toNat (BitVec.ofInt 64 x &&& BitVec.ofInt 64 4294967295)) : Int) * Int.fdiv y 4294967296)))
 4294967296)),
 int IntKind.u64 (IntKind.wrap IntKind.u64 (x * y))])
theorem F_math_bits_Mul64 (x : Int) (y : Int) (h : Heap) (K : Value → Heap → Prop) (k : F_math_bits_Mul64T x y h K) : CallA Try.prog fn_math_bits_Mul64 [int IntKind.u64 x, int IntKind.u64 y] h K :=
 CallA.of_ev (cs := []) Try.func150 (by kernel_rfl) (fun _ _ => Try.call150 _ _) mixed (by kernel_rfl) (by kernel_rfl) k
def F_slices_ContainsFunc_int64_int64_dT (s : Option Addr) (sn : Nat) (sc : Nat) (h : Heap) (K : Value → Heap → Prop) : Prop :=
 CallA Try.prog fn_slices_IndexFunc_int64_int64 [slice s sn sc, func (Fn.func fn_split_below) #[] #[]] h fun (v : Value) (h : Heap) => ∃ (n : Int), v = int IntKind.i64 n ∧ Ret h K (Value.bool (decide (n ≥ 0)))
theorem F_slices_ContainsFunc_int64_int64_d (s : Option Addr) (sn : Nat) (sc : Nat) (h : Heap) (K : Value → Heap → Prop) (k : F_slices_ContainsFunc_int64_int64_dT s sn sc h K) : CallA Try.prog fn_slices_ContainsFunc_int64_int64 [slice s sn sc, func (Fn.func fn_split_below) #[] #[]] h K :=
 CallA.of_ev (cs := []) Try.func53 (by kernel_rfl) (fun _ _ => Try.call53 _ _) mixed (by kernel_rfl) (by kernel_rfl) k
def L_slices_IndexFunc_int64_int64_d_0 (s : Option Addr) (sn : Nat) (sc : Nat) (t7 : Int) (t8 : Int) (h : Heap) (K : Value → Heap → Prop) : Prop :=
 LoopAt Try.prog Try.f103 103 (loopK Try.f103 0) (sp 19 [(0, slice s sn sc), (1, func (Fn.func fn_split_below) #[] #[]), (7, int IntKind.i64 t7), (8, int IntKind.i64 t8)]) h K
def L_slices_IndexFunc_int64_int64_d_0T (s : Option Addr) (sn : Nat) (sc : Nat) (t7 : Int) (t8 : Int) (h : Heap) (K : Value → Heap → Prop) : Prop :=
 Br (decide (t8 < t7))
 (0 ≤ t8 ∧
 t8 < (↑sn : Int) ∧
 withAddr s fun (b o : Nat) =>
 ∃ (n : Int),
 Heap.cell h b (o + Int.toNat t8) = some (int IntKind.i64 n) ∧
 CallA Try.prog fn_split_below [int IntKind.i64 n] h fun (v : Value) (h : Heap) => ∃ (b : Bool), v = Value.bool b ∧ Br b (Ret h K (int IntKind.i64 t8)) (L_slices_IndexFunc_int64_int64_d_0 s sn sc t7 (IntKind.wrap IntKind.i64 (t8 + 1)) h K))
 (Ret h K (int IntKind.i64 (-1)))
theorem L_slices_IndexFunc_int64_int64_d_0r (s : Option Addr) (sn : Nat) (sc : Nat) (t7 : Int) (t8 : Int) (h : Heap) (K : Value → Heap → Prop) (k : L_slices_IndexFunc_int64_int64_d_0T s sn sc t7 t8 h K) : L_slices_IndexFunc_int64_int64_d_0 s sn sc t7 t8 h K :=
 LoopAt.of_ev (cs := []) Try.func103 mixed (fun junk => by kernel_rfl) k
def F_slices_IndexFunc_int64_int64_dT (s : Option Addr) (sn : Nat) (sc : Nat) (h : Heap) (K : Value → Heap → Prop) : Prop :=
 L_slices_IndexFunc_int64_int64_d_0 s sn sc (↑sn : Int) 0 h K
theorem F_slices_IndexFunc_int64_int64_d (s : Option Addr) (sn : Nat) (sc : Nat) (h : Heap) (K : Value → Heap → Prop) (k : F_slices_IndexFunc_int64_int64_dT s sn sc h K) : CallA Try.prog fn_slices_IndexFunc_int64_int64 [slice s sn sc, func (Fn.func fn_split_below) #[] #[]] h K :=
 CallA.of_ev (cs := []) Try.func103 (by kernel_rfl) (fun _ _ => Try.call103 _ _) mixed (by kernel_rfl) (by kernel_rfl) k
def F_slices_ContainsFunc_int64_int64_eT (s : Option Addr) (sn : Nat) (sc : Nat) (h : Heap) (K : Value → Heap → Prop) : Prop :=
 CallA Try.prog fn_slices_IndexFunc_int64_int64 [slice s sn sc, func (Fn.func fn_split_Shares_1) #[] #[]] h fun (v : Value) (h : Heap) => ∃ (n : Int), v = int IntKind.i64 n ∧ Ret h K (Value.bool (decide (n ≥ 0)))
theorem F_slices_ContainsFunc_int64_int64_e (s : Option Addr) (sn : Nat) (sc : Nat) (h : Heap) (K : Value → Heap → Prop) (k : F_slices_ContainsFunc_int64_int64_eT s sn sc h K) : CallA Try.prog fn_slices_ContainsFunc_int64_int64 [slice s sn sc, func (Fn.func fn_split_Shares_1) #[] #[]] h K :=
 CallA.of_ev (cs := []) Try.func53 (by kernel_rfl) (fun _ _ => Try.call53 _ _) mixed (by kernel_rfl) (by kernel_rfl) k
def L_slices_IndexFunc_int64_int64_e_0 (s : Option Addr) (sn : Nat) (sc : Nat) (t7 : Int) (t8 : Int) (h : Heap) (K : Value → Heap → Prop) : Prop :=
 LoopAt Try.prog Try.f103 103 (loopK Try.f103 0) (sp 19 [(0, slice s sn sc), (1, func (Fn.func fn_split_Shares_1) #[] #[]), (7, int IntKind.i64 t7), (8, int IntKind.i64 t8)]) h K
def L_slices_IndexFunc_int64_int64_e_0T (s : Option Addr) (sn : Nat) (sc : Nat) (t7 : Int) (t8 : Int) (h : Heap) (K : Value → Heap → Prop) : Prop :=
 Br (decide (t8 < t7))
 (0 ≤ t8 ∧
 t8 < (↑sn : Int) ∧
 withAddr s fun (b o : Nat) =>
 ∃ (n : Int),
 Heap.cell h b (o + Int.toNat t8) = some (int IntKind.i64 n) ∧
 CallA Try.prog fn_split_Shares_1 [int IntKind.i64 n] h fun (v : Value) (h : Heap) => ∃ (b : Bool), v = Value.bool b ∧ Br b (Ret h K (int IntKind.i64 t8)) (L_slices_IndexFunc_int64_int64_e_0 s sn sc t7 (IntKind.wrap IntKind.i64 (t8 + 1)) h K))
 (Ret h K (int IntKind.i64 (-1)))
theorem L_slices_IndexFunc_int64_int64_e_0r (s : Option Addr) (sn : Nat) (sc : Nat) (t7 : Int) (t8 : Int) (h : Heap) (K : Value → Heap → Prop) (k : L_slices_IndexFunc_int64_int64_e_0T s sn sc t7 t8 h K) : L_slices_IndexFunc_int64_int64_e_0 s sn sc t7 t8 h K :=
 LoopAt.of_ev (cs := []) Try.func103 mixed (fun junk => by kernel_rfl) k
def F_slices_IndexFunc_int64_int64_eT (s : Option Addr) (sn : Nat) (sc : Nat) (h : Heap) (K : Value → Heap → Prop) : Prop :=
 L_slices_IndexFunc_int64_int64_e_0 s sn sc (↑sn : Int) 0 h K
theorem F_slices_IndexFunc_int64_int64_e (s : Option Addr) (sn : Nat) (sc : Nat) (h : Heap) (K : Value → Heap → Prop) (k : F_slices_IndexFunc_int64_int64_eT s sn sc h K) : CallA Try.prog fn_slices_IndexFunc_int64_int64 [slice s sn sc, func (Fn.func fn_split_Shares_1) #[] #[]] h K :=
 CallA.of_ev (cs := []) Try.func103 (by kernel_rfl) (fun _ _ => Try.call103 _ _) mixed (by kernel_rfl) (by kernel_rfl) k
def L_split_Fill_0 (total : Int) (out : Option Addr) (outn : Nat) (outc : Nat) (t22 : Option Addr) (t22n : Nat) (t22c : Nat) (t23 : Int) (t24 : Int) (h : Heap) (K : Value → Heap → Prop) : Prop :=
 LoopAt Try.prog Try.f18 18 (loopK Try.f18 0) (sp 41 [(0, int IntKind.i64 total), (7, slice out outn outc), (22, slice t22 t22n t22c), (23, int IntKind.i64 t23), (24, int IntKind.i64 t24)]) h K
def L_split_Fill_0T (total : Int) (out : Option Addr) (outn : Nat) (outc : Nat) (t22 : Option Addr) (t22n : Nat) (t22c : Nat) (t23 : Int) (t24 : Int) (h : Heap) (K : Value → Heap → Prop) : Prop :=
 Br (decide (t24 < t23))
 (0 ≤ t24 ∧
 t24 < (↑t22n : Int) ∧
 withAddr t22 fun (b o : Nat) =>
 ∃ (n : Int),
 Heap.cell h b (o + Int.toNat t24) = some (int IntKind.i64 n) ∧
 newB h [int IntKind.i64 (if total < n then total else n)] 2 fun (r : Nat) (h : Heap) =>
 AppA [int IntKind.i64 0] 2 h out outn outc 1 (some { block := r, off := 0 }) fun (ap : Option Addr) (cp : Nat) (h : Heap) =>
 L_split_Fill_0 (IntKind.wrap IntKind.i64 (total - if total < n then total else n)) ap (outn + 1) cp t22 t22n t22c t23 (IntKind.wrap IntKind.i64 (t24 + 1)) h K)
 (Ret h K (tuple #[slice out outn outc, int IntKind.i64 total, int IntKind.i64 0]))
theorem L_split_Fill_0r (total : Int) (out : Option Addr) (outn : Nat) (outc : Nat) (t22 : Option Addr) (t22n : Nat) (t22c : Nat) (t23 : Int) (t24 : Int) (h : Heap) (K : Value → Heap → Prop) (k : L_split_Fill_0T total out outn outc t22 t22n t22c t23 t24 h K) : L_split_Fill_0 total out outn outc t22 t22n t22c t23 t24 h K :=
 LoopAt.of_ev (cs := []) Try.func18 mixed (fun junk => by kernel_rfl) k
def F_split_FillT (total : Int) (rooms : Option Addr) (roomsn : Nat) (roomsc : Nat) (h : Heap) (K : Value → Heap → Prop) : Prop :=
 Br (decide ((↑roomsn : Int) > 64)) (Ret h K (tuple #[slice none 0 0, int IntKind.i64 0, int IntKind.i64 4]))
 (Br (decide (total < 0)) (Ret h K (tuple #[slice none 0 0, int IntKind.i64 0, int IntKind.i64 1]))
 (CallA Try.prog fn_slices_ContainsFunc_int64_int64 [slice rooms roomsn roomsc, func (Fn.func fn_split_below) #[] #[]] h fun (v : Value) (h : Heap) =>
 ∃ (b : Bool), v = Value.bool b ∧ Br b (Ret h K (tuple #[slice none 0 0, int IntKind.i64 0, int IntKind.i64 1])) (L_split_Fill_0 total none 0 0 rooms roomsn roomsc (↑roomsn : Int) 0 h K)))
theorem F_split_Fill (total : Int) (rooms : Option Addr) (roomsn : Nat) (roomsc : Nat) (h : Heap) (K : Value → Heap → Prop) (k : F_split_FillT total rooms roomsn roomsc h K) : CallA Try.prog fn_split_Fill [int IntKind.i64 total, slice rooms roomsn roomsc] h K :=
 CallA.of_ev (cs := []) Try.func18 (by kernel_rfl) (fun _ _ => Try.call18 _ _) mixed (by kernel_rfl) (by kernel_rfl) k
end Go.Proofs.Ytghdadniddoboaa

namespace Go.Proofs.Ytghdadniddoboaa
open Go Go.Sy Go.Value
set_option linter.unusedVariables false
set_option maxRecDepth 100000
def F_money_AddT (a : Int) (b : Int) (h : Heap) (K : Value → Heap → Prop) : Prop :=
 Br (decide (a < 0) == decide (b < 0))
 (Br (!decide (IntKind.wrap IntKind.i64 (a + b) < 0) == decide (a < 0)) (Ret h K (tuple #[int IntKind.i64 0, int IntKind.i64 3]))
 (Ret h K (tuple #[int IntKind.i64 (IntKind.wrap IntKind.i64 (a + b)), int IntKind.i64 0])))
 (Ret h K (tuple #[int IntKind.i64 (IntKind.wrap IntKind.i64 (a + b)), int IntKind.i64 0]))
theorem F_money_Add (a : Int) (b : Int) (h : Heap) (K : Value → Heap → Prop) (k : F_money_AddT a b h K) : CallA Try.prog fn_money_Add [int IntKind.i64 a, int IntKind.i64 b] h K :=
 CallA.of_ev (cs := []) Try.func72 (by kernel_rfl) (fun _ _ => Try.call72 _ _) mixed (by kernel_rfl) (by kernel_rfl) k
def F_money_SubT (a : Int) (b : Int) (h : Heap) (K : Value → Heap → Prop) : Prop :=
 Br (!decide (a < 0) == decide (b < 0))
 (Br (!decide (IntKind.wrap IntKind.i64 (a - b) < 0) == decide (a < 0)) (Ret h K (tuple #[int IntKind.i64 0, int IntKind.i64 3]))
 (Ret h K (tuple #[int IntKind.i64 (IntKind.wrap IntKind.i64 (a - b)), int IntKind.i64 0])))
 (Ret h K (tuple #[int IntKind.i64 (IntKind.wrap IntKind.i64 (a - b)), int IntKind.i64 0]))
theorem F_money_Sub (a : Int) (b : Int) (h : Heap) (K : Value → Heap → Prop) (k : F_money_SubT a b h K) : CallA Try.prog fn_money_Sub [int IntKind.i64 a, int IntKind.i64 b] h K :=
 CallA.of_ev (cs := []) Try.func155 (by kernel_rfl) (fun _ _ => Try.call155 _ _) mixed (by kernel_rfl) (by kernel_rfl) k
def F_money_MulDivT (a : Int) (b : Int) (c : Int) (up : Bool) (h : Heap) (K : Value → Heap → Prop) : Prop :=
 Br (decide (c < 1)) (Ret h K (tuple #[int IntKind.i64 0, int IntKind.i64 1]))
 (CallA Try.prog fn_money_size [int IntKind.i64 a] h fun (v : Value) (h : Heap) =>
 ∃ (n : Int),
 v = int IntKind.u64 n ∧
 CallA Try.prog fn_money_size [int IntKind.i64 b] h fun (v : Value) (h : Heap) =>
 ∃ (n_1 : Int),
 v = int IntKind.u64 n_1 ∧
 CallA Try.prog fn_money_product [int IntKind.u64 n, int IntKind.u64 n_1] h fun (v : Value) (h : Heap) =>
 ∃ (n : Int),
 ∃ (n_2 : Int),
 v = tuple #[int IntKind.u64 n, int IntKind.u64 n_2] ∧
 CallA Try.prog fn_money_quotient [int IntKind.u64 n, int IntKind.u64 n_2, int IntKind.u64 (IntKind.wrap IntKind.u64 c)] h fun (v : Value) (h : Heap) =>
 ∃ (n : Int),
 ∃ (b_1 : Bool),
 ∃ (b_2 : Bool),
 v = tuple #[int IntKind.u64 n, Value.bool b_1, Value.bool b_2] ∧
 Br (!b_2) (Ret h K (tuple #[int IntKind.i64 0, int IntKind.i64 3]))
 (Br b_1
 (Br (!(!decide (a < 0) == decide (b < 0)) == up)
 (Br (IntKind.wrap IntKind.u64 (n + 1) == 0) (Ret h K (tuple #[int IntKind.i64 0, int IntKind.i64 3]))
 (CallA Try.prog fn_money_signed [int IntKind.u64 (IntKind.wrap IntKind.u64 (n + 1)), Value.bool !decide (a < 0) == decide (b < 0)] h fun (v : Value) (h : Heap) =>
 ∃ (n : Int), ∃ (n_3 : Int), v = tuple #[int IntKind.i64 n, int IntKind.i64 n_3] ∧ Ret h K (tuple #[int IntKind.i64 n, int IntKind.i64 n_3])))
 (CallA Try.prog fn_money_signed [int IntKind.u64 n, Value.bool !decide (a < 0) == decide (b < 0)] h fun (v : Value) (h : Heap) =>
 ∃ (n : Int), ∃ (n_3 : Int), v = tuple #[int IntKind.i64 n, int IntKind.i64 n_3] ∧ Ret h K (tuple #[int IntKind.i64 n, int IntKind.i64 n_3])))
 (CallA Try.prog fn_money_signed [int IntKind.u64 n, Value.bool !decide (a < 0) == decide (b < 0)] h fun (v : Value) (h : Heap) =>
 ∃ (n : Int), ∃ (n_3 : Int), v = tuple #[int IntKind.i64 n, int IntKind.i64 n_3] ∧ Ret h K (tuple #[int IntKind.i64 n, int IntKind.i64 n_3]))))
theorem F_money_MulDiv (a : Int) (b : Int) (c : Int) (up : Bool) (h : Heap) (K : Value → Heap → Prop) (k : F_money_MulDivT a b c up h K) : CallA Try.prog fn_money_MulDiv [int IntKind.i64 a, int IntKind.i64 b, int IntKind.i64 c, Value.bool up] h K :=
 CallA.of_ev (cs := []) Try.func22 (by kernel_rfl) (fun _ _ => Try.call22 _ _) mixed (by kernel_rfl) (by kernel_rfl) k
def L_money_Sum_0 (high : Int) (lower : Int) (t9 : Option Addr) (t9n : Nat) (t9c : Nat) (t10 : Int) (t11 : Int) (h : Heap) (K : Value → Heap → Prop) : Prop :=
 LoopAt Try.prog Try.f21 21 (loopK Try.f21 0) (sp 37 [(4, int IntKind.i64 high), (5, int IntKind.u64 lower), (9, slice t9 t9n t9c), (10, int IntKind.i64 t10), (11, int IntKind.i64 t11)]) h K
def L_money_Sum_0T (high : Int) (lower : Int) (t9 : Option Addr) (t9n : Nat) (t9c : Nat) (t10 : Int) (t11 : Int) (h : Heap) (K : Value → Heap → Prop) : Prop :=
 Br (decide (t11 < t10))
 (0 ≤ t11 ∧
 t11 < (↑t9n : Int) ∧
 withAddr t9 fun (b o : Nat) =>
 ∃ (n : Int),
 Heap.cell h b (o + Int.toNat t11) = some (int IntKind.i64 n) ∧
 Br (decide (IntKind.wrap IntKind.u64 (lower + IntKind.wrap IntKind.u64 n) < lower))
 (L_money_Sum_0 (IntKind.wrap IntKind.i64 (IntKind.wrap IntKind.i64 (high + 1) + Int.fdiv n 9223372036854775808)) (IntKind.wrap IntKind.u64 (lower + IntKind.wrap IntKind.u64 n)) t9 t9n t9c t10
 (IntKind.wrap IntKind.i64 (t11 + 1)) h K)
 (L_money_Sum_0 (IntKind.wrap IntKind.i64 (high + Int.fdiv n 9223372036854775808)) (IntKind.wrap IntKind.u64 (lower + IntKind.wrap IntKind.u64 n)) t9 t9n t9c t10 (IntKind.wrap IntKind.i64 (t11 + 1)) h K))
 (Br (high != Int.fdiv (IntKind.wrap IntKind.i64 lower) 9223372036854775808) (Ret h K (tuple #[int IntKind.i64 0, int IntKind.i64 3]))
 (Ret h K (tuple #[int IntKind.i64 (IntKind.wrap IntKind.i64 lower), int IntKind.i64 0])))
theorem L_money_Sum_0r (high : Int) (lower : Int) (t9 : Option Addr) (t9n : Nat) (t9c : Nat) (t10 : Int) (t11 : Int) (h : Heap) (K : Value → Heap → Prop) (k : L_money_Sum_0T high lower t9 t9n t9c t10 t11 h K) : L_money_Sum_0 high lower t9 t9n t9c t10 t11 h K :=
 LoopAt.of_ev (cs := []) Try.func21 mixed (fun junk => by kernel_rfl) k
def F_money_SumT (l : Option Addr) (ln : Nat) (lc : Nat) (h : Heap) (K : Value → Heap → Prop) : Prop :=
 L_money_Sum_0 0 0 l ln lc (↑ln : Int) 0 h K
theorem F_money_Sum (l : Option Addr) (ln : Nat) (lc : Nat) (h : Heap) (K : Value → Heap → Prop) (k : F_money_SumT l ln lc h K) : CallA Try.prog fn_money_Sum [slice l ln lc] h K :=
 CallA.of_ev (cs := []) Try.func21 (by kernel_rfl) (fun _ _ => Try.call21 _ _) mixed (by kernel_rfl) (by kernel_rfl) k
def L_money_Chain_0 (a : Int) (t10 : Option Addr) (t10n : Nat) (t10c : Nat) (t11 : Int) (t12 : Int) (h : Heap) (K : Value → Heap → Prop) : Prop :=
 LoopAt Try.prog Try.f23 23 (loopK Try.f23 0) (sp 28 [(0, int IntKind.i64 a), (10, slice t10 t10n t10c), (11, int IntKind.i64 t11), (12, int IntKind.i64 t12)]) h K
def L_money_Chain_0T (a : Int) (t10 : Option Addr) (t10n : Nat) (t10c : Nat) (t11 : Int) (t12 : Int) (h : Heap) (K : Value → Heap → Prop) : Prop :=
 Br (decide (t12 < t11))
 (0 ≤ t12 ∧
 t12 < (↑t10n : Int) ∧
 withAddr t10 fun (b o : Nat) =>
 ∃ (n : Int),
 Heap.cell h b (o + Int.toNat t12) = some (int IntKind.i64 n) ∧
 CallA Try.prog fn_money_Add [int IntKind.i64 a, int IntKind.i64 n] h fun (v : Value) (h : Heap) =>
 ∃ (n : Int),
 ∃ (n_1 : Int),
 v = tuple #[int IntKind.i64 n, int IntKind.i64 n_1] ∧ Br (n_1 != 0) (Ret h K (tuple #[int IntKind.i64 0, int IntKind.i64 n_1])) (L_money_Chain_0 n t10 t10n t10c t11 (IntKind.wrap IntKind.i64 (t12 + 1)) h K))
 (Ret h K (tuple #[int IntKind.i64 a, int IntKind.i64 0]))
theorem L_money_Chain_0r (a : Int) (t10 : Option Addr) (t10n : Nat) (t10c : Nat) (t11 : Int) (t12 : Int) (h : Heap) (K : Value → Heap → Prop) (k : L_money_Chain_0T a t10 t10n t10c t11 t12 h K) : L_money_Chain_0 a t10 t10n t10c t11 t12 h K :=
 LoopAt.of_ev (cs := []) Try.func23 mixed (fun junk => by kernel_rfl) k
def F_money_ChainT (a : Int) (l : Option Addr) (ln : Nat) (lc : Nat) (h : Heap) (K : Value → Heap → Prop) : Prop :=
 L_money_Chain_0 a l ln lc (↑ln : Int) 0 h K
theorem F_money_Chain (a : Int) (l : Option Addr) (ln : Nat) (lc : Nat) (h : Heap) (K : Value → Heap → Prop) (k : F_money_ChainT a l ln lc h K) : CallA Try.prog fn_money_Chain [int IntKind.i64 a, slice l ln lc] h K :=
 CallA.of_ev (cs := []) Try.func23 (by kernel_rfl) (fun _ _ => Try.call23 _ _) mixed (by kernel_rfl) (by kernel_rfl) k
def F_money_signedT (n : Int) (neg : Bool) (h : Heap) (K : Value → Heap → Prop) : Prop :=
 Br neg
 (Br (decide (n ≤ 9223372036854775808)) (Ret h K (tuple #[int IntKind.i64 (IntKind.wrap IntKind.i64 (0 - IntKind.wrap IntKind.i64 n)), int IntKind.i64 0]))
 (Br (!neg) (Br (decide (n < 9223372036854775808)) (Ret h K (tuple #[int IntKind.i64 (IntKind.wrap IntKind.i64 n), int IntKind.i64 0])) (Ret h K (tuple #[int IntKind.i64 0, int IntKind.i64 3])))
 (Ret h K (tuple #[int IntKind.i64 0, int IntKind.i64 3]))))
 (Br (!neg) (Br (decide (n < 9223372036854775808)) (Ret h K (tuple #[int IntKind.i64 (IntKind.wrap IntKind.i64 n), int IntKind.i64 0])) (Ret h K (tuple #[int IntKind.i64 0, int IntKind.i64 3])))
 (Ret h K (tuple #[int IntKind.i64 0, int IntKind.i64 3])))
theorem F_money_signed (n : Int) (neg : Bool) (h : Heap) (K : Value → Heap → Prop) (k : F_money_signedT n neg h K) : CallA Try.prog fn_money_signed [int IntKind.u64 n, Value.bool neg] h K :=
 CallA.of_ev (cs := []) Try.func71 (by kernel_rfl) (fun _ _ => Try.call71 _ _) mixed (by kernel_rfl) (by kernel_rfl) k
def F_money_sizeT (a : Int) (h : Heap) (K : Value → Heap → Prop) : Prop :=
 Br (decide (a < 0)) (Ret h K (int IntKind.u64 (IntKind.wrap IntKind.u64 (0 - IntKind.wrap IntKind.u64 a)))) (Ret h K (int IntKind.u64 (IntKind.wrap IntKind.u64 a)))
theorem F_money_size (a : Int) (h : Heap) (K : Value → Heap → Prop) (k : F_money_sizeT a h K) : CallA Try.prog fn_money_size [int IntKind.i64 a] h K :=
 CallA.of_ev (cs := []) Try.func69 (by kernel_rfl) (fun _ _ => Try.call69 _ _) mixed (by kernel_rfl) (by kernel_rfl) k
def F_money_productT (a : Int) (b : Int) (h : Heap) (K : Value → Heap → Prop) : Prop :=
 newB h [int IntKind.u64 0, int IntKind.u64 0, int IntKind.u64 0, int IntKind.u64 0] 163 fun (r : Nat) (h : Heap) =>
 Heap.canSt h r 0 4 ∧
 ∃ (n : Int),
 Heap.cell
 (Heap.setN h r 0
 [int IntKind.u64
 (IntKind.wrap IntKind.u64
 (IntKind.wrap IntKind.u64 (↑(BitVec.toNat (BitVec.ofInt 64 a &&& BitVec.ofInt 64 4294967295)) : Int) *
 IntKind.wrap IntKind.u64 (↑(BitVec.toNat (BitVec.ofInt 64 b &&& BitVec.ofInt 64 4294967295)) : Int))),
 int IntKind.u64 (IntKind.wrap IntKind.u64 (IntKind.wrap IntKind.u64 (↑(BitVec.toNat (BitVec.ofInt 64 a &&& BitVec.ofInt 64 4294967295)) : Int) * Int.fdiv b 4294967296)),
 int IntKind.u64 (IntKind.wrap IntKind.u64 (Int.fdiv a 4294967296 * IntKind.wrap IntKind.u64 (↑(BitVec.toNat (BitVec.ofInt 64 b &&& BitVec.ofInt 64 4294967295)) : Int))),
 int IntKind.u64 (IntKind.wrap IntKind.u64 (Int.fdiv a 4294967296 * Int.fdiv b 4294967296))])
 r 0 =
 some (int IntKind.u64 n) ∧
 ∃ (n_1 : Int),
 Heap.cell
 (Heap.setN h r 0
 [int IntKind.u64
 (IntKind.wrap IntKind.u64
 (IntKind.wrap IntKind.u64 (↑(BitVec.toNat (BitVec.ofInt 64 a &&& BitVec.ofInt 64 4294967295)) : Int) *
 IntKind.wrap IntKind.u64 (↑(BitVec.toNat (BitVec.ofInt 64 b &&& BitVec.ofInt 64 4294967295)) : Int))),
 int IntKind.u64 (IntKind.wrap IntKind.u64 (IntKind.wrap IntKind.u64 (↑(BitVec.toNat (BitVec.ofInt 64 a &&& BitVec.ofInt 64 4294967295)) : Int) * Int.fdiv b 4294967296)),
 int IntKind.u64 (IntKind.wrap IntKind.u64 (Int.fdiv a 4294967296 * IntKind.wrap IntKind.u64 (↑(BitVec.toNat (BitVec.ofInt 64 b &&& BitVec.ofInt 64 4294967295)) : Int))),
 int IntKind.u64 (IntKind.wrap IntKind.u64 (Int.fdiv a 4294967296 * Int.fdiv b 4294967296))])
 r 1 =
 some (int IntKind.u64 n_1) ∧
 ∃ (n_2 : Int),
 Heap.cell
 (Heap.setN h r 0
 [int IntKind.u64
 (IntKind.wrap IntKind.u64
 (IntKind.wrap IntKind.u64 (↑(BitVec.toNat (BitVec.ofInt 64 a &&& BitVec.ofInt 64 4294967295)) : Int) *
 IntKind.wrap IntKind.u64 (↑(BitVec.toNat (BitVec.ofInt 64 b &&& BitVec.ofInt 64 4294967295)) : Int))),
 int IntKind.u64 (IntKind.wrap IntKind.u64 (IntKind.wrap IntKind.u64 (↑(BitVec.toNat (BitVec.ofInt 64 a &&& BitVec.ofInt 64 4294967295)) : Int) * Int.fdiv b 4294967296)),
 int IntKind.u64 (IntKind.wrap IntKind.u64 (Int.fdiv a 4294967296 * IntKind.wrap IntKind.u64 (↑(BitVec.toNat (BitVec.ofInt 64 b &&& BitVec.ofInt 64 4294967295)) : Int))),
 int IntKind.u64 (IntKind.wrap IntKind.u64 (Int.fdiv a 4294967296 * Int.fdiv b 4294967296))])
 r 2 =
 some (int IntKind.u64 n_2) ∧
 ∃ (n_3 : Int),
 Heap.cell
 (Heap.setN h r 0
 [int IntKind.u64
 (IntKind.wrap IntKind.u64
 (IntKind.wrap IntKind.u64 (↑(BitVec.toNat (BitVec.ofInt 64 a &&& BitVec.ofInt 64 4294967295)) : Int) *
 IntKind.wrap IntKind.u64 (↑(BitVec.toNat (BitVec.ofInt 64 b &&& BitVec.ofInt 64 4294967295)) : Int))),
 int IntKind.u64 (IntKind.wrap IntKind.u64 (IntKind.wrap IntKind.u64 (↑(BitVec.toNat (BitVec.ofInt 64 a &&& BitVec.ofInt 64 4294967295)) : Int) * Int.fdiv b 4294967296)),
 int IntKind.u64 (IntKind.wrap IntKind.u64 (Int.fdiv a 4294967296 * IntKind.wrap IntKind.u64 (↑(BitVec.toNat (BitVec.ofInt 64 b &&& BitVec.ofInt 64 4294967295)) : Int))),
 int IntKind.u64 (IntKind.wrap IntKind.u64 (Int.fdiv a 4294967296 * Int.fdiv b 4294967296))])
 r 0 =
 some (int IntKind.u64 n_3) ∧
 ∃ (n_4 : Int),
 Heap.cell
 (Heap.setN h r 0
 [int IntKind.u64
 (IntKind.wrap IntKind.u64
 (IntKind.wrap IntKind.u64 (↑(BitVec.toNat (BitVec.ofInt 64 a &&& BitVec.ofInt 64 4294967295)) : Int) *
 IntKind.wrap IntKind.u64 (↑(BitVec.toNat (BitVec.ofInt 64 b &&& BitVec.ofInt 64 4294967295)) : Int))),
 int IntKind.u64 (IntKind.wrap IntKind.u64 (IntKind.wrap IntKind.u64 (↑(BitVec.toNat (BitVec.ofInt 64 a &&& BitVec.ofInt 64 4294967295)) : Int) * Int.fdiv b 4294967296)),
 int IntKind.u64 (IntKind.wrap IntKind.u64 (Int.fdiv a 4294967296 * IntKind.wrap IntKind.u64 (↑(BitVec.toNat (BitVec.ofInt 64 b &&& BitVec.ofInt 64 4294967295)) : Int))),
 int IntKind.u64 (IntKind.wrap IntKind.u64 (Int.fdiv a 4294967296 * Int.fdiv b 4294967296))])
 r 3 =
 some (int IntKind.u64 n_4) ∧
 ∃ (n_5 : Int),
 Heap.cell
 (Heap.setN h r 0
 [int IntKind.u64
 (IntKind.wrap IntKind.u64
 (IntKind.wrap IntKind.u64 (↑(BitVec.toNat (BitVec.ofInt 64 a &&& BitVec.ofInt 64 4294967295)) : Int) *
 IntKind.wrap IntKind.u64 (↑(BitVec.toNat (BitVec.ofInt 64 b &&& BitVec.ofInt 64 4294967295)) : Int))),
 int IntKind.u64 (IntKind.wrap IntKind.u64 (IntKind.wrap IntKind.u64 (↑(BitVec.toNat (BitVec.ofInt 64 a &&& BitVec.ofInt 64 4294967295)) : Int) * Int.fdiv b 4294967296)),
 int IntKind.u64 (IntKind.wrap IntKind.u64 (Int.fdiv a 4294967296 * IntKind.wrap IntKind.u64 (↑(BitVec.toNat (BitVec.ofInt 64 b &&& BitVec.ofInt 64 4294967295)) : Int))),
 int IntKind.u64 (IntKind.wrap IntKind.u64 (Int.fdiv a 4294967296 * Int.fdiv b 4294967296))])
 r 1 =
 some (int IntKind.u64 n_5) ∧
 ∃ (n_6 : Int),
 Heap.cell
 (Heap.setN h r 0
 [int IntKind.u64
 (IntKind.wrap IntKind.u64
 (IntKind.wrap IntKind.u64 (↑(BitVec.toNat (BitVec.ofInt 64 a &&& BitVec.ofInt 64 4294967295)) : Int) *
 IntKind.wrap IntKind.u64 (↑(BitVec.toNat (BitVec.ofInt 64 b &&& BitVec.ofInt 64 4294967295)) : Int))),
 int IntKind.u64 (IntKind.wrap IntKind.u64 (IntKind.wrap IntKind.u64 (↑(BitVec.toNat (BitVec.ofInt 64 a &&& BitVec.ofInt 64 4294967295)) : Int) * Int.fdiv b 4294967296)),
 int IntKind.u64 (IntKind.wrap IntKind.u64 (Int.fdiv a 4294967296 * IntKind.wrap IntKind.u64 (↑(BitVec.toNat (BitVec.ofInt 64 b &&& BitVec.ofInt 64 4294967295)) : Int))),
 int IntKind.u64 (IntKind.wrap IntKind.u64 (Int.fdiv a 4294967296 * Int.fdiv b 4294967296))])
 r 2 =
 some (int IntKind.u64 n_6) ∧
 Ret
 (Heap.setN h r 0
 [int IntKind.u64
 (IntKind.wrap IntKind.u64
 (IntKind.wrap IntKind.u64 (↑(BitVec.toNat (BitVec.ofInt 64 a &&& BitVec.ofInt 64 4294967295)) : Int) *
 IntKind.wrap IntKind.u64 (↑(BitVec.toNat (BitVec.ofInt 64 b &&& BitVec.ofInt 64 4294967295)) : Int))),
 int IntKind.u64 (IntKind.wrap IntKind.u64 (IntKind.wrap IntKind.u64 (↑(BitVec.toNat (BitVec.ofInt 64 a &&& BitVec.ofInt 64 4294967295)) : Int) * Int.fdiv b 4294967296)),
 int IntKind.u64 (IntKind.wrap IntKind.u64 (Int.fdiv a 4294967296 * IntKind.wrap IntKind.u64 (↑(BitVec.toNat (BitVec.ofInt 64 b &&& BitVec.ofInt 64 4294967295)) : Int))),
 int IntKind.u64 (IntKind.wrap IntKind.u64 (Int.fdiv a 4294967296 * Int.fdiv b 4294967296))])
 K
 (tuple
 #[int IntKind.u64
 (IntKind.wrap IntKind.u64
 (IntKind.wrap IntKind.u64 (IntKind.wrap IntKind.u64 (n_4 + Int.fdiv n_5 4294967296) + Int.fdiv n_6 4294967296) +
 Int.fdiv
 (IntKind.wrap IntKind.u64
 (IntKind.wrap IntKind.u64 (Int.fdiv n 4294967296 + IntKind.wrap IntKind.u64 (↑(BitVec.toNat (BitVec.ofInt 64 n_1 &&& BitVec.ofInt 64 4294967295)) : Int)) +
 IntKind.wrap IntKind.u64 (↑(BitVec.toNat (BitVec.ofInt 64 n_2 &&& BitVec.ofInt 64 4294967295)) : Int)))
 4294967296)),
 int IntKind.u64
 (IntKind.wrap IntKind.u64
 (↑(BitVec.toNat
 (BitVec.ofInt 64 (IntKind.wrap IntKind.u64 (↑(BitVec.toNat (BitVec.ofInt 64 n_3 &&& BitVec.ofInt 64 4294967295)) : Int)) |||
 BitVec.ofInt 64
 (IntKind.wrap IntKind.u64
 (IntKind.wrap IntKind.u64
 (IntKind.wrap IntKind.u64 (Int.fdiv n 4294967296 + IntKind.wrap IntKind.u64 (↑(BitVec.toNat (BitVec.ofInt 64 n_1 &&& BitVec.ofInt 64 4294967295)) : Int)) +
 IntKind.wrap IntKind.u64 (↑(BitVec.toNat (BitVec.ofInt 64 n_2 &&& BitVec.ofInt 64 4294967295)) : Int)) *
 4294967296)))) :
 Int))])
theorem F_money_product (a : Int) (b : Int) (h : Heap) (K : Value → Heap → Prop) (k : F_money_productT a b h K) : CallA Try.prog fn_money_product [int IntKind.u64 a, int IntKind.u64 b] h K :=
 CallA.of_ev (cs := []) Try.func68 (by kernel_rfl) (fun _ _ => Try.call68 _ _) mixed (by kernel_rfl) (by kernel_rfl) k
def L_money_quotient_0 (lower : Int) (by' : Int) (q : Int) (rest : Int) (t15 : Int) (h : Heap) (K : Value → Heap → Prop) : Prop :=
 LoopAt Try.prog Try.f70 70 (loopK Try.f70 0) (sp 43 [(1, int IntKind.u64 lower), (2, int IntKind.u64 by'), (6, int IntKind.u64 q), (9, int IntKind.u64 rest), (15, int IntKind.i64 t15)]) h K
def L_money_quotient_0T (lower : Int) (by' : Int) (q : Int) (rest : Int) (t15 : Int) (h : Heap) (K : Value → Heap → Prop) : Prop :=
 Br (decide (t15 < 64))
 (Br (decide (rest ≥ 9223372036854775808))
 (L_money_quotient_0 (IntKind.wrap IntKind.u64 (lower * 2)) by' (IntKind.wrap IntKind.u64 (↑(BitVec.toNat (BitVec.ofInt 64 (IntKind.wrap IntKind.u64 (q * 2)) ||| BitVec.ofInt 64 1)) : Int))
 (IntKind.wrap IntKind.u64 (IntKind.wrap IntKind.u64 (↑(BitVec.toNat (BitVec.ofInt 64 (IntKind.wrap IntKind.u64 (rest * 2)) ||| BitVec.ofInt 64 (Int.fdiv lower 9223372036854775808))) : Int) - by'))
 (IntKind.wrap IntKind.i64 (t15 + 1)) h K)
 (Br (decide (IntKind.wrap IntKind.u64 (↑(BitVec.toNat (BitVec.ofInt 64 (IntKind.wrap IntKind.u64 (rest * 2)) ||| BitVec.ofInt 64 (Int.fdiv lower 9223372036854775808))) : Int) ≥ by'))
 (L_money_quotient_0 (IntKind.wrap IntKind.u64 (lower * 2)) by' (IntKind.wrap IntKind.u64 (↑(BitVec.toNat (BitVec.ofInt 64 (IntKind.wrap IntKind.u64 (q * 2)) ||| BitVec.ofInt 64 1)) : Int))
 (IntKind.wrap IntKind.u64 (IntKind.wrap IntKind.u64 (↑(BitVec.toNat (BitVec.ofInt 64 (IntKind.wrap IntKind.u64 (rest * 2)) ||| BitVec.ofInt 64 (Int.fdiv lower 9223372036854775808))) : Int) - by'))
 (IntKind.wrap IntKind.i64 (t15 + 1)) h K)
 (L_money_quotient_0 (IntKind.wrap IntKind.u64 (lower * 2)) by' (IntKind.wrap IntKind.u64 (q * 2))
 (IntKind.wrap IntKind.u64 (↑(BitVec.toNat (BitVec.ofInt 64 (IntKind.wrap IntKind.u64 (rest * 2)) ||| BitVec.ofInt 64 (Int.fdiv lower 9223372036854775808))) : Int)) (IntKind.wrap IntKind.i64 (t15 + 1)) h K)))
 (Ret h K (tuple #[int IntKind.u64 q, Value.bool (rest != 0), Value.bool true]))
theorem L_money_quotient_0r (lower : Int) (by' : Int) (q : Int) (rest : Int) (t15 : Int) (h : Heap) (K : Value → Heap → Prop) (k : L_money_quotient_0T lower by' q rest t15 h K) : L_money_quotient_0 lower by' q rest t15 h K :=
 LoopAt.of_ev (cs := []) Try.func70 mixed (fun junk => by kernel_rfl) k
def F_money_quotientT (high : Int) (lower : Int) (by' : Int) (h : Heap) (K : Value → Heap → Prop) : Prop :=
 Br (decide (high ≥ by')) (Ret h K (tuple #[int IntKind.u64 0, Value.bool false, Value.bool false])) (L_money_quotient_0 lower by' 0 high 0 h K)
theorem F_money_quotient (high : Int) (lower : Int) (by' : Int) (h : Heap) (K : Value → Heap → Prop) (k : F_money_quotientT high lower by' h K) : CallA Try.prog fn_money_quotient [int IntKind.u64 high, int IntKind.u64 lower, int IntKind.u64 by'] h K :=
 CallA.of_ev (cs := []) Try.func70 (by kernel_rfl) (fun _ _ => Try.call70 _ _) mixed (by kernel_rfl) (by kernel_rfl) k
end Go.Proofs.Ytghdadniddoboaa

namespace Go.Proofs.Ytghdadniddoboaa
open Go Go.Sy Go.Value
set_option linter.unusedVariables false
set_option maxRecDepth 100000
def F_slices_SortFunc_int_intT (x : Option Addr) (xn : Nat) (xc : Nat) (cmp_0 : Option Addr) (cmp_0n : Nat) (cmp_0c : Nat) (h : Heap) (K : Value → Heap → Prop) : Prop :=
 CallA Try.prog fn_math_bits_Len [int IntKind.u64 (IntKind.wrap IntKind.u64 (↑xn : Int))] h fun (v : Value) (h : Heap) =>
 ∃ (n : Int),
 v = int IntKind.i64 n ∧
 CallA Try.prog fn_slices_pdqsortCmpFunc_int [slice x xn xc, int IntKind.i64 0, int IntKind.i64 (↑xn : Int), int IntKind.i64 n, func (Fn.func fn_split_by_order) #[agg #[slice cmp_0 cmp_0n cmp_0c]] #[]] h fun (v : Value) (h : Heap) =>
 v = tuple #[] ∧ Ret h K (tuple #[])
theorem F_slices_SortFunc_int_int (x : Option Addr) (xn : Nat) (xc : Nat) (cmp_0 : Option Addr) (cmp_0n : Nat) (cmp_0c : Nat) (h : Heap) (K : Value → Heap → Prop) (k : F_slices_SortFunc_int_intT x xn xc cmp_0 cmp_0n cmp_0c h K) : CallA Try.prog fn_slices_SortFunc_int_int [slice x xn xc, func (Fn.func fn_split_by_order) #[agg #[slice cmp_0 cmp_0n cmp_0c]] #[]] h K :=
 CallA.of_ev (cs := []) Try.func57 (by kernel_rfl) (fun _ _ => Try.call57 _ _) mixed (by kernel_rfl) (by kernel_rfl) k
def L_slices_pdqsortCmpFunc_int_0 (data : Option Addr) (datan : Nat) (datac : Nat) (a : Int) (b : Int) (limit : Int) (cmp_0_0 : Option Addr) (cmp_0_0n : Nat) (cmp_0_0c : Nat) (wasBalanced : Bool) (wasPartitioned : Bool) (h : Heap) (K : Value → Heap → Prop) : Prop :=
 LoopAt Try.prog Try.f104 104 (loopK Try.f104 0) (sp 148 [(0, slice data datan datac), (1, int IntKind.i64 a), (2, int IntKind.i64 b), (3, int IntKind.i64 limit), (4, func (Fn.func fn_split_by_order) #[agg #[slice cmp_0_0 cmp_0_0n cmp_0_0c]] #[]), (10, Value.bool wasBalanced),
 (11, Value.bool wasPartitioned)]) h K
def L_slices_pdqsortCmpFunc_int_1010 (data : Option Addr) (datan : Nat) (datac : Nat) (a : Int) (b : Int) (limit : Int) (cmp_0_0 : Option Addr) (cmp_0_0n : Nat) (cmp_0_0c : Nat) (wasBalanced : Bool) (wasPartitioned : Bool) (length : Int) (h : Heap) (K : Value → Heap → Prop) : Prop :=
 CutAt Try.prog Try.f104 104 (cutK Try.f104 10) (sp 148 [(0, slice data datan datac), (1, int IntKind.i64 a), (2, int IntKind.i64 b), (3, int IntKind.i64 limit), (4, func (Fn.func fn_split_by_order) #[agg #[slice cmp_0_0 cmp_0_0n cmp_0_0c]] #[]), (10, Value.bool wasBalanced),
 (11, Value.bool wasPartitioned), (12, int IntKind.i64 length)]) h K
def L_slices_pdqsortCmpFunc_int_1015 (data : Option Addr) (datan : Nat) (datac : Nat) (a : Int) (b : Int) (limit : Int) (cmp_0_0 : Option Addr) (cmp_0_0n : Nat) (cmp_0_0c : Nat) (wasBalanced : Bool) (wasPartitioned : Bool) (length : Int) (pivot : Int) (hint : Int) (h : Heap) (K : Value → Heap → Prop) : Prop :=
 CutAt Try.prog Try.f104 104 (cutK Try.f104 15) (sp 148 [(0, slice data datan datac), (1, int IntKind.i64 a), (2, int IntKind.i64 b), (3, int IntKind.i64 limit), (4, func (Fn.func fn_split_by_order) #[agg #[slice cmp_0_0 cmp_0_0n cmp_0_0c]] #[]), (10, Value.bool wasBalanced),
 (11, Value.bool wasPartitioned), (12, int IntKind.i64 length), (13, int IntKind.i64 pivot), (14, int IntKind.i64 hint)]) h K
def L_slices_pdqsortCmpFunc_int_1017 (data : Option Addr) (datan : Nat) (datac : Nat) (a : Int) (b : Int) (limit : Int) (cmp_0_0 : Option Addr) (cmp_0_0n : Nat) (cmp_0_0c : Nat) (wasBalanced : Bool) (wasPartitioned : Bool) (length : Int) (pivot : Int) (h : Heap) (K : Value → Heap → Prop) : Prop :=
 CutAt Try.prog Try.f104 104 (cutK Try.f104 17) (sp 148 [(0, slice data datan datac), (1, int IntKind.i64 a), (2, int IntKind.i64 b), (3, int IntKind.i64 limit), (4, func (Fn.func fn_split_by_order) #[agg #[slice cmp_0_0 cmp_0_0n cmp_0_0c]] #[]), (10, Value.bool wasBalanced),
 (11, Value.bool wasPartitioned), (12, int IntKind.i64 length), (13, int IntKind.i64 pivot)]) h K
def L_slices_pdqsortCmpFunc_int_0T (data : Option Addr) (datan : Nat) (datac : Nat) (a : Int) (b : Int) (limit : Int) (cmp_0_0 : Option Addr) (cmp_0_0n : Nat) (cmp_0_0c : Nat) (wasBalanced : Bool) (wasPartitioned : Bool) (h : Heap) (K : Value → Heap → Prop) : Prop :=
 Br (decide (IntKind.wrap IntKind.i64 (b - a) ≤ 12))
 (CallA Try.prog fn_slices_insertionSortCmpFunc_int [slice data datan datac, int IntKind.i64 a, int IntKind.i64 b, func (Fn.func fn_split_by_order) #[agg #[slice cmp_0_0 cmp_0_0n cmp_0_0c]] #[]] h fun (v : Value) (h : Heap) =>
 v = tuple #[] ∧ Ret h K (tuple #[]))
 (Br (limit == 0)
 (CallA Try.prog fn_slices_heapSortCmpFunc_int [slice data datan datac, int IntKind.i64 a, int IntKind.i64 b, func (Fn.func fn_split_by_order) #[agg #[slice cmp_0_0 cmp_0_0n cmp_0_0c]] #[]] h fun (v : Value) (h : Heap) =>
 v = tuple #[] ∧ Ret h K (tuple #[]))
 (Br (!wasBalanced)
 (CallA Try.prog fn_slices_breakPatternsCmpFunc_int [slice data datan datac, int IntKind.i64 a, int IntKind.i64 b, func (Fn.func fn_split_by_order) #[agg #[slice cmp_0_0 cmp_0_0n cmp_0_0c]] #[]] h fun (v : Value) (h : Heap) =>
 v = tuple #[] ∧ L_slices_pdqsortCmpFunc_int_1010 data datan datac a b (IntKind.wrap IntKind.i64 (limit - 1)) cmp_0_0 cmp_0_0n cmp_0_0c wasBalanced wasPartitioned (IntKind.wrap IntKind.i64 (b - a)) h K)
 (L_slices_pdqsortCmpFunc_int_1010 data datan datac a b limit cmp_0_0 cmp_0_0n cmp_0_0c wasBalanced wasPartitioned (IntKind.wrap IntKind.i64 (b - a)) h K)))
theorem L_slices_pdqsortCmpFunc_int_0r (data : Option Addr) (datan : Nat) (datac : Nat) (a : Int) (b : Int) (limit : Int) (cmp_0_0 : Option Addr) (cmp_0_0n : Nat) (cmp_0_0c : Nat) (wasBalanced : Bool) (wasPartitioned : Bool) (h : Heap) (K : Value → Heap → Prop) (k : L_slices_pdqsortCmpFunc_int_0T data datan datac a b limit cmp_0_0 cmp_0_0n cmp_0_0c wasBalanced wasPartitioned h K) : L_slices_pdqsortCmpFunc_int_0 data datan datac a b limit cmp_0_0 cmp_0_0n cmp_0_0c wasBalanced wasPartitioned h K :=
 LoopAt.of_ev (cs := [10, 15, 17]) Try.func104 mixed (fun junk => by kernel_rfl) k
def L_slices_pdqsortCmpFunc_int_1010T (data : Option Addr) (datan : Nat) (datac : Nat) (a : Int) (b : Int) (limit : Int) (cmp_0_0 : Option Addr) (cmp_0_0n : Nat) (cmp_0_0c : Nat) (wasBalanced : Bool) (wasPartitioned : Bool) (length : Int) (h : Heap) (K : Value → Heap → Prop) : Prop :=
 CallA Try.prog fn_slices_choosePivotCmpFunc_int [slice data datan datac, int IntKind.i64 a, int IntKind.i64 b, func (Fn.func fn_split_by_order) #[agg #[slice cmp_0_0 cmp_0_0n cmp_0_0c]] #[]] h fun (v : Value) (h : Heap) =>
 ∃ (n : Int),
 ∃ (n_1 : Int),
 v = tuple #[int IntKind.i64 n, int IntKind.i64 n_1] ∧
 Br (n_1 == 2)
 (CallA Try.prog fn_slices_reverseRangeCmpFunc_int [slice data datan datac, int IntKind.i64 a, int IntKind.i64 b, func (Fn.func fn_split_by_order) #[agg #[slice cmp_0_0 cmp_0_0n cmp_0_0c]] #[]] h fun (v : Value) (h : Heap) =>
 v = tuple #[] ∧
 L_slices_pdqsortCmpFunc_int_1015 data datan datac a b limit cmp_0_0 cmp_0_0n cmp_0_0c wasBalanced wasPartitioned length (IntKind.wrap IntKind.i64 (IntKind.wrap IntKind.i64 (b - 1) - IntKind.wrap IntKind.i64 (n - a))) 1 h K)
 (L_slices_pdqsortCmpFunc_int_1015 data datan datac a b limit cmp_0_0 cmp_0_0n cmp_0_0c wasBalanced wasPartitioned length n n_1 h K)
theorem L_slices_pdqsortCmpFunc_int_1010r (data : Option Addr) (datan : Nat) (datac : Nat) (a : Int) (b : Int) (limit : Int) (cmp_0_0 : Option Addr) (cmp_0_0n : Nat) (cmp_0_0c : Nat) (wasBalanced : Bool) (wasPartitioned : Bool) (length : Int) (h : Heap) (K : Value → Heap → Prop) (k : L_slices_pdqsortCmpFunc_int_1010T data datan datac a b limit cmp_0_0 cmp_0_0n cmp_0_0c wasBalanced wasPartitioned length h K) : L_slices_pdqsortCmpFunc_int_1010 data datan datac a b limit cmp_0_0 cmp_0_0n cmp_0_0c wasBalanced wasPartitioned length h K :=
 CutAt.of_ev (cs := [10, 15, 17]) Try.func104 mixed (fun junk => by kernel_rfl) k
def L_slices_pdqsortCmpFunc_int_1015T (data : Option Addr) (datan : Nat) (datac : Nat) (a : Int) (b : Int) (limit : Int) (cmp_0_0 : Option Addr) (cmp_0_0n : Nat) (cmp_0_0c : Nat) (wasBalanced : Bool) (wasPartitioned : Bool) (length : Int) (pivot : Int) (hint : Int) (h : Heap) (K : Value → Heap → Prop) : Prop :=
 Br wasBalanced
 (Br wasPartitioned
 (Br (hint == 1)
 (CallA Try.prog fn_slices_partialInsertionSortCmpFunc_int [slice data datan datac, int IntKind.i64 a, int IntKind.i64 b, func (Fn.func fn_split_by_order) #[agg #[slice cmp_0_0 cmp_0_0n cmp_0_0c]] #[]] h fun (v : Value) (h : Heap) =>
 ∃ (b_1 : Bool), v = Value.bool b_1 ∧ Br b_1 (Ret h K (tuple #[])) (L_slices_pdqsortCmpFunc_int_1017 data datan datac a b limit cmp_0_0 cmp_0_0n cmp_0_0c wasBalanced wasPartitioned length pivot h K))
 (L_slices_pdqsortCmpFunc_int_1017 data datan datac a b limit cmp_0_0 cmp_0_0n cmp_0_0c wasBalanced wasPartitioned length pivot h K))
 (L_slices_pdqsortCmpFunc_int_1017 data datan datac a b limit cmp_0_0 cmp_0_0n cmp_0_0c wasBalanced wasPartitioned length pivot h K))
 (L_slices_pdqsortCmpFunc_int_1017 data datan datac a b limit cmp_0_0 cmp_0_0n cmp_0_0c wasBalanced wasPartitioned length pivot h K)
theorem L_slices_pdqsortCmpFunc_int_1015r (data : Option Addr) (datan : Nat) (datac : Nat) (a : Int) (b : Int) (limit : Int) (cmp_0_0 : Option Addr) (cmp_0_0n : Nat) (cmp_0_0c : Nat) (wasBalanced : Bool) (wasPartitioned : Bool) (length : Int) (pivot : Int) (hint : Int) (h : Heap) (K : Value → Heap → Prop) (k : L_slices_pdqsortCmpFunc_int_1015T data datan datac a b limit cmp_0_0 cmp_0_0n cmp_0_0c wasBalanced wasPartitioned length pivot hint h K) : L_slices_pdqsortCmpFunc_int_1015 data datan datac a b limit cmp_0_0 cmp_0_0n cmp_0_0c wasBalanced wasPartitioned length pivot hint h K :=
 CutAt.of_ev (cs := [10, 15, 17]) Try.func104 mixed (fun junk => by kernel_rfl) k
def L_slices_pdqsortCmpFunc_int_1017T (data : Option Addr) (datan : Nat) (datac : Nat) (a : Int) (b : Int) (limit : Int) (cmp_0_0 : Option Addr) (cmp_0_0n : Nat) (cmp_0_0c : Nat) (wasBalanced : Bool) (wasPartitioned : Bool) (length : Int) (pivot : Int) (h : Heap) (K : Value → Heap → Prop) : Prop :=
 Br (decide (a > 0))
 (0 ≤ IntKind.wrap IntKind.i64 (a - 1) ∧
 IntKind.wrap IntKind.i64 (a - 1) < (↑datan : Int) ∧
 withAddr data fun (b_1 o : Nat) =>
 ∃ (n : Int),
 Heap.cell h b_1 (o + Int.toNat (IntKind.wrap IntKind.i64 (a - 1))) = some (int IntKind.i64 n) ∧
 0 ≤ pivot ∧
 pivot < (↑datan : Int) ∧
 withAddr data fun (b_2 o : Nat) =>
 ∃ (n_1 : Int),
 Heap.cell h b_2 (o + Int.toNat pivot) = some (int IntKind.i64 n_1) ∧
 CallA Try.prog fn_split_by_order [agg #[slice cmp_0_0 cmp_0_0n cmp_0_0c], int IntKind.i64 n, int IntKind.i64 n_1] h fun (v : Value) (h : Heap) =>
 ∃ (n : Int),
 v = int IntKind.i64 n ∧
 Br (!decide (n < 0))
 (CallA Try.prog fn_slices_partitionEqualCmpFunc_int [slice data datan datac, int IntKind.i64 a, int IntKind.i64 b, int IntKind.i64 pivot, func (Fn.func fn_split_by_order) #[agg #[slice cmp_0_0 cmp_0_0n cmp_0_0c]] #[]] h
 fun (v : Value) (h : Heap) => ∃ (n : Int), v = int IntKind.i64 n ∧ L_slices_pdqsortCmpFunc_int_0 data datan datac n b limit cmp_0_0 cmp_0_0n cmp_0_0c wasBalanced wasPartitioned h K)
 (CallA Try.prog fn_slices_partitionCmpFunc_int [slice data datan datac, int IntKind.i64 a, int IntKind.i64 b, int IntKind.i64 pivot, func (Fn.func fn_split_by_order) #[agg #[slice cmp_0_0 cmp_0_0n cmp_0_0c]] #[]] h
 fun (v : Value) (h : Heap) =>
 ∃ (n : Int),
 ∃ (b_3 : Bool),
 v = tuple #[int IntKind.i64 n, Value.bool b_3] ∧
 Br (decide (IntKind.wrap IntKind.i64 (n - a) < IntKind.wrap IntKind.i64 (b - n)))
 (CallA Try.prog fn_slices_pdqsortCmpFunc_int [slice data datan datac, int IntKind.i64 a, int IntKind.i64 n, int IntKind.i64 limit, func (Fn.func fn_split_by_order) #[agg #[slice cmp_0_0 cmp_0_0n cmp_0_0c]] #[]] h
 fun (v : Value) (h : Heap) =>
 v = tuple #[] ∧
 L_slices_pdqsortCmpFunc_int_0 data datan datac (IntKind.wrap IntKind.i64 (n + 1)) b limit cmp_0_0 cmp_0_0n cmp_0_0c
 (decide (IntKind.wrap IntKind.i64 (n - a) ≥ IntKind.wrap IntKind.i64 (Int.tdiv length 8))) b_3 h K)
 (CallA Try.prog 104
 [slice data datan datac, int IntKind.i64 (IntKind.wrap IntKind.i64 (n + 1)), int IntKind.i64 b, int IntKind.i64 limit,
 func (Fn.func fn_split_by_order) #[agg #[slice cmp_0_0 cmp_0_0n cmp_0_0c]] #[]]
 h fun (v : Value) (h : Heap) =>
 v = tuple #[] ∧ L_slices_pdqsortCmpFunc_int_0 data datan datac a n limit cmp_0_0 cmp_0_0n cmp_0_0c (decide (IntKind.wrap IntKind.i64 (b - n) ≥ IntKind.wrap IntKind.i64 (Int.tdiv length 8))) b_3 h K)))
 (CallA Try.prog fn_slices_partitionCmpFunc_int [slice data datan datac, int IntKind.i64 a, int IntKind.i64 b, int IntKind.i64 pivot, func (Fn.func fn_split_by_order) #[agg #[slice cmp_0_0 cmp_0_0n cmp_0_0c]] #[]] h fun (v : Value) (h : Heap) =>
 ∃ (n : Int),
 ∃ (b_1 : Bool),
 v = tuple #[int IntKind.i64 n, Value.bool b_1] ∧
 Br (decide (IntKind.wrap IntKind.i64 (n - a) < IntKind.wrap IntKind.i64 (b - n)))
 (CallA Try.prog fn_slices_pdqsortCmpFunc_int [slice data datan datac, int IntKind.i64 a, int IntKind.i64 n, int IntKind.i64 limit, func (Fn.func fn_split_by_order) #[agg #[slice cmp_0_0 cmp_0_0n cmp_0_0c]] #[]] h
 fun (v : Value) (h : Heap) =>
 v = tuple #[] ∧
 L_slices_pdqsortCmpFunc_int_0 data datan datac (IntKind.wrap IntKind.i64 (n + 1)) b limit cmp_0_0 cmp_0_0n cmp_0_0c (decide (IntKind.wrap IntKind.i64 (n - a) ≥ IntKind.wrap IntKind.i64 (Int.tdiv length 8))) b_1 h K)
 (CallA Try.prog 104
 [slice data datan datac, int IntKind.i64 (IntKind.wrap IntKind.i64 (n + 1)), int IntKind.i64 b, int IntKind.i64 limit, func (Fn.func fn_split_by_order) #[agg #[slice cmp_0_0 cmp_0_0n cmp_0_0c]] #[]] h
 fun (v : Value) (h : Heap) => v = tuple #[] ∧ L_slices_pdqsortCmpFunc_int_0 data datan datac a n limit cmp_0_0 cmp_0_0n cmp_0_0c (decide (IntKind.wrap IntKind.i64 (b - n) ≥ IntKind.wrap IntKind.i64 (Int.tdiv length 8))) b_1 h K))
theorem L_slices_pdqsortCmpFunc_int_1017r (data : Option Addr) (datan : Nat) (datac : Nat) (a : Int) (b : Int) (limit : Int) (cmp_0_0 : Option Addr) (cmp_0_0n : Nat) (cmp_0_0c : Nat) (wasBalanced : Bool) (wasPartitioned : Bool) (length : Int) (pivot : Int) (h : Heap) (K : Value → Heap → Prop) (k : L_slices_pdqsortCmpFunc_int_1017T data datan datac a b limit cmp_0_0 cmp_0_0n cmp_0_0c wasBalanced wasPartitioned length pivot h K) : L_slices_pdqsortCmpFunc_int_1017 data datan datac a b limit cmp_0_0 cmp_0_0n cmp_0_0c wasBalanced wasPartitioned length pivot h K :=
 CutAt.of_ev (cs := [10, 15, 17]) Try.func104 mixed (fun junk => by kernel_rfl) k
def F_slices_pdqsortCmpFunc_intT (data : Option Addr) (datan : Nat) (datac : Nat) (a : Int) (b : Int) (limit : Int) (cmp_0 : Option Addr) (cmp_0n : Nat) (cmp_0c : Nat) (h : Heap) (K : Value → Heap → Prop) : Prop :=
 L_slices_pdqsortCmpFunc_int_0 data datan datac a b limit cmp_0 cmp_0n cmp_0c true true h K
theorem F_slices_pdqsortCmpFunc_int (data : Option Addr) (datan : Nat) (datac : Nat) (a : Int) (b : Int) (limit : Int) (cmp_0 : Option Addr) (cmp_0n : Nat) (cmp_0c : Nat) (h : Heap) (K : Value → Heap → Prop) (k : F_slices_pdqsortCmpFunc_intT data datan datac a b limit cmp_0 cmp_0n cmp_0c h K) : CallA Try.prog fn_slices_pdqsortCmpFunc_int [slice data datan datac, int IntKind.i64 a, int IntKind.i64 b, int IntKind.i64 limit, func (Fn.func fn_split_by_order) #[agg #[slice cmp_0 cmp_0n cmp_0c]] #[]] h K :=
 CallA.of_ev (cs := [10, 15, 17]) Try.func104 (by kernel_rfl) (fun _ _ => Try.call104 _ _) mixed (by kernel_rfl) (by kernel_rfl) k
end Go.Proofs.Ytghdadniddoboaa

namespace Go.Proofs.Ytghdadniddoboaa
open Go Go.Sy Go.Value
set_option linter.unusedVariables false
set_option maxRecDepth 100000
def L_slices_breakPatternsCmpFunc_int_0 (data : Option Addr) (datan : Nat) (datac : Nat) (a : Int) (length : Int) (random : Nat) (modulus : Int) (idx : Int) (h : Heap) (K : Value → Heap → Prop) : Prop :=
 LoopAt Try.prog Try.f139 139 (loopK Try.f139 0) (sp 67 [(0, slice data datan datac), (1, int IntKind.i64 a), (8, int IntKind.i64 length), (9, pointer (some { block := random, off := 0 })), (10, int IntKind.u64 modulus), (11, int IntKind.i64 idx)]) h K
def L_slices_breakPatternsCmpFunc_int_0T (data : Option Addr) (datan : Nat) (datac : Nat) (a : Int) (length : Int) (random : Nat) (modulus : Int) (idx : Int) (h : Heap) (K : Value → Heap → Prop) : Prop :=
 Br (decide (idx ≤ IntKind.wrap IntKind.i64 (IntKind.wrap IntKind.i64 (a + IntKind.wrap IntKind.i64 (IntKind.wrap IntKind.i64 (Int.tdiv length 4) * 2)) + 1)))
 (CallA Try.prog fn_pslices_xorshift_Next [pointer (some { block := random, off := 0 })] h fun (v : Value) (h : Heap) =>
 ∃ (n : Int),
 v = int IntKind.u64 n ∧
 Br (decide (IntKind.wrap IntKind.i64 (IntKind.wrap IntKind.u64 (↑(BitVec.toNat (BitVec.ofInt 64 n &&& BitVec.ofInt 64 (IntKind.wrap IntKind.u64 (modulus - 1)))) : Int)) ≥ length))
 (0 ≤
 IntKind.wrap IntKind.i64
 (a + IntKind.wrap IntKind.i64 (IntKind.wrap IntKind.i64 (IntKind.wrap IntKind.u64 (↑(BitVec.toNat (BitVec.ofInt 64 n &&& BitVec.ofInt 64 (IntKind.wrap IntKind.u64 (modulus - 1)))) : Int)) - length)) ∧
 IntKind.wrap IntKind.i64
 (a + IntKind.wrap IntKind.i64 (IntKind.wrap IntKind.i64 (IntKind.wrap IntKind.u64 (↑(BitVec.toNat (BitVec.ofInt 64 n &&& BitVec.ofInt 64 (IntKind.wrap IntKind.u64 (modulus - 1)))) : Int)) - length)) <
 (↑datan : Int) ∧
 withAddr data fun (b o : Nat) =>
 ∃ (n_1 : Int),
 Heap.cell h b
 (o +
 Int.toNat
 (IntKind.wrap IntKind.i64
 (a +
 IntKind.wrap IntKind.i64
 (IntKind.wrap IntKind.i64 (IntKind.wrap IntKind.u64 (↑(BitVec.toNat (BitVec.ofInt 64 n &&& BitVec.ofInt 64 (IntKind.wrap IntKind.u64 (modulus - 1)))) : Int)) - length)))) =
 some (int IntKind.i64 n_1) ∧
 0 ≤ idx ∧
 idx < (↑datan : Int) ∧
 withAddr data fun (b o : Nat) =>
 ∃ (n_2 : Int),
 Heap.cell h b (o + Int.toNat idx) = some (int IntKind.i64 n_2) ∧
 0 ≤ idx ∧
 idx < (↑datan : Int) ∧
 withAddr data fun (b o : Nat) =>
 Heap.canSt h b (o + Int.toNat idx) 1 ∧
 0 ≤
 IntKind.wrap IntKind.i64
 (a +
 IntKind.wrap IntKind.i64
 (IntKind.wrap IntKind.i64 (IntKind.wrap IntKind.u64 (↑(BitVec.toNat (BitVec.ofInt 64 n &&& BitVec.ofInt 64 (IntKind.wrap IntKind.u64 (modulus - 1)))) : Int)) - length)) ∧
 IntKind.wrap IntKind.i64
 (a +
 IntKind.wrap IntKind.i64
 (IntKind.wrap IntKind.i64 (IntKind.wrap IntKind.u64 (↑(BitVec.toNat (BitVec.ofInt 64 n &&& BitVec.ofInt 64 (IntKind.wrap IntKind.u64 (modulus - 1)))) : Int)) - length)) <
 (↑datan : Int) ∧
 withAddr data fun (b_1 o_1 : Nat) =>
 Heap.canSt (Heap.setN h b (o + Int.toNat idx) [int IntKind.i64 n_1]) b_1
 (o_1 +
 Int.toNat
 (IntKind.wrap IntKind.i64
 (a +
 IntKind.wrap IntKind.i64
 (IntKind.wrap IntKind.i64 (IntKind.wrap IntKind.u64 (↑(BitVec.toNat (BitVec.ofInt 64 n &&& BitVec.ofInt 64 (IntKind.wrap IntKind.u64 (modulus - 1)))) : Int)) -
 length))))
 1 ∧
 L_slices_breakPatternsCmpFunc_int_0 data datan datac a length random modulus (IntKind.wrap IntKind.i64 (idx + 1))
 (Heap.setN (Heap.setN h b (o + Int.toNat idx) [int IntKind.i64 n_1]) b_1
 (o_1 +
 Int.toNat
 (IntKind.wrap IntKind.i64
 (a +
 IntKind.wrap IntKind.i64
 (IntKind.wrap IntKind.i64 (IntKind.wrap IntKind.u64 (↑(BitVec.toNat (BitVec.ofInt 64 n &&& BitVec.ofInt 64 (IntKind.wrap IntKind.u64 (modulus - 1)))) : Int)) -
 length))))
 [int IntKind.i64 n_2])
 K)
 (0 ≤ IntKind.wrap IntKind.i64 (a + IntKind.wrap IntKind.i64 (IntKind.wrap IntKind.u64 (↑(BitVec.toNat (BitVec.ofInt 64 n &&& BitVec.ofInt 64 (IntKind.wrap IntKind.u64 (modulus - 1)))) : Int))) ∧
 IntKind.wrap IntKind.i64 (a + IntKind.wrap IntKind.i64 (IntKind.wrap IntKind.u64 (↑(BitVec.toNat (BitVec.ofInt 64 n &&& BitVec.ofInt 64 (IntKind.wrap IntKind.u64 (modulus - 1)))) : Int))) < (↑datan : Int) ∧
 withAddr data fun (b o : Nat) =>
 ∃ (n_1 : Int),
 Heap.cell h b
 (o +
 Int.toNat
 (IntKind.wrap IntKind.i64 (a + IntKind.wrap IntKind.i64 (IntKind.wrap IntKind.u64 (↑(BitVec.toNat (BitVec.ofInt 64 n &&& BitVec.ofInt 64 (IntKind.wrap IntKind.u64 (modulus - 1)))) : Int))))) =
 some (int IntKind.i64 n_1) ∧
 0 ≤ idx ∧
 idx < (↑datan : Int) ∧
 withAddr data fun (b o : Nat) =>
 ∃ (n_2 : Int),
 Heap.cell h b (o + Int.toNat idx) = some (int IntKind.i64 n_2) ∧
 0 ≤ idx ∧
 idx < (↑datan : Int) ∧
 withAddr data fun (b o : Nat) =>
 Heap.canSt h b (o + Int.toNat idx) 1 ∧
 0 ≤
 IntKind.wrap IntKind.i64
 (a + IntKind.wrap IntKind.i64 (IntKind.wrap IntKind.u64 (↑(BitVec.toNat (BitVec.ofInt 64 n &&& BitVec.ofInt 64 (IntKind.wrap IntKind.u64 (modulus - 1)))) : Int))) ∧
 IntKind.wrap IntKind.i64
 (a + IntKind.wrap IntKind.i64 (IntKind.wrap IntKind.u64 (↑(BitVec.toNat (BitVec.ofInt 64 n &&& BitVec.ofInt 64 (IntKind.wrap IntKind.u64 (modulus - 1)))) : Int))) <
 (↑datan : Int) ∧
 withAddr data fun (b_1 o_1 : Nat) =>
 Heap.canSt (Heap.setN h b (o + Int.toNat idx) [int IntKind.i64 n_1]) b_1
 (o_1 +
 Int.toNat
 (IntKind.wrap IntKind.i64
 (a + IntKind.wrap IntKind.i64 (IntKind.wrap IntKind.u64 (↑(BitVec.toNat (BitVec.ofInt 64 n &&& BitVec.ofInt 64 (IntKind.wrap IntKind.u64 (modulus - 1)))) : Int)))))
 1 ∧
 L_slices_breakPatternsCmpFunc_int_0 data datan datac a length random modulus (IntKind.wrap IntKind.i64 (idx + 1))
 (Heap.setN (Heap.setN h b (o + Int.toNat idx) [int IntKind.i64 n_1]) b_1
 (o_1 +
 Int.toNat
 (IntKind.wrap IntKind.i64
 (a + IntKind.wrap IntKind.i64 (IntKind.wrap IntKind.u64 (↑(BitVec.toNat (BitVec.ofInt 64 n &&& BitVec.ofInt 64 (IntKind.wrap IntKind.u64 (modulus - 1)))) : Int)))))
 [int IntKind.i64 n_2])
 K))
 (Ret h K (tuple #[]))
theorem L_slices_breakPatternsCmpFunc_int_0r (data : Option Addr) (datan : Nat) (datac : Nat) (a : Int) (length : Int) (random : Nat) (modulus : Int) (idx : Int) (h : Heap) (K : Value → Heap → Prop) (k : L_slices_breakPatternsCmpFunc_int_0T data datan datac a length random modulus idx h K) : L_slices_breakPatternsCmpFunc_int_0 data datan datac a length random modulus idx h K :=
 LoopAt.of_ev (cs := []) Try.func139 mixed (fun junk => by kernel_rfl) k
def F_slices_breakPatternsCmpFunc_intT (data : Option Addr) (datan : Nat) (datac : Nat) (a : Int) (b : Int) (cmp_0 : Option Addr) (cmp_0n : Nat) (cmp_0c : Nat) (h : Heap) (K : Value → Heap → Prop) : Prop :=
 Br (decide (IntKind.wrap IntKind.i64 (b - a) ≥ 8))
 (newB h [int IntKind.u64 0] 212 fun (r : Nat) (h : Heap) =>
 Heap.canSt h r 0 1 ∧
 CallA Try.prog fn_slices_nextPowerOfTwo [int IntKind.i64 (IntKind.wrap IntKind.i64 (b - a))] (Heap.setN h r 0 [int IntKind.u64 (IntKind.wrap IntKind.u64 (IntKind.wrap IntKind.i64 (b - a)))]) fun (v : Value) (h : Heap) =>
 ∃ (n : Int),
 v = int IntKind.u64 n ∧
 L_slices_breakPatternsCmpFunc_int_0 data datan datac a (IntKind.wrap IntKind.i64 (b - a)) r n
 (IntKind.wrap IntKind.i64 (IntKind.wrap IntKind.i64 (a + IntKind.wrap IntKind.i64 (IntKind.wrap IntKind.i64 (Int.tdiv (IntKind.wrap IntKind.i64 (b - a)) 4) * 2)) - 1)) h K)
 (Ret h K (tuple #[]))
theorem F_slices_breakPatternsCmpFunc_int (data : Option Addr) (datan : Nat) (datac : Nat) (a : Int) (b : Int) (cmp_0 : Option Addr) (cmp_0n : Nat) (cmp_0c : Nat) (h : Heap) (K : Value → Heap → Prop) (k : F_slices_breakPatternsCmpFunc_intT data datan datac a b cmp_0 cmp_0n cmp_0c h K) : CallA Try.prog fn_slices_breakPatternsCmpFunc_int [slice data datan datac, int IntKind.i64 a, int IntKind.i64 b, func (Fn.func fn_split_by_order) #[agg #[slice cmp_0 cmp_0n cmp_0c]] #[]] h K :=
 CallA.of_ev (cs := []) Try.func139 (by kernel_rfl) (fun _ _ => Try.call139 _ _) mixed (by kernel_rfl) (by kernel_rfl) k
def F_slices_choosePivotCmpFunc_intT (data : Option Addr) (datan : Nat) (datac : Nat) (a : Int) (b : Int) (cmp_0 : Option Addr) (cmp_0n : Nat) (cmp_0c : Nat) (h : Heap) (K : Value → Heap → Prop) : Prop :=
 newB h [int IntKind.i64 0] 3 fun (r : Nat) (h : Heap) =>
 Br (decide (IntKind.wrap IntKind.i64 (b - a) ≥ 8))
 (Br (decide (IntKind.wrap IntKind.i64 (b - a) ≥ 50))
 (CallA Try.prog 167
 [slice data datan datac, int IntKind.i64 (IntKind.wrap IntKind.i64 (a + IntKind.wrap IntKind.i64 (IntKind.wrap IntKind.i64 (Int.tdiv (IntKind.wrap IntKind.i64 (b - a)) 4) * 1))),
 pointer (some { block := r, off := 0 }), func (Fn.func fn_split_by_order) #[agg #[slice cmp_0 cmp_0n cmp_0c]] #[]]
 h fun (v : Value) (h : Heap) =>
 ∃ (n : Int),
 v = int IntKind.i64 n ∧
 CallA Try.prog 167
 [slice data datan datac, int IntKind.i64 (IntKind.wrap IntKind.i64 (a + IntKind.wrap IntKind.i64 (IntKind.wrap IntKind.i64 (Int.tdiv (IntKind.wrap IntKind.i64 (b - a)) 4) * 2))),
 pointer (some { block := r, off := 0 }), func (Fn.func fn_split_by_order) #[agg #[slice cmp_0 cmp_0n cmp_0c]] #[]]
 h fun (v : Value) (h : Heap) =>
 ∃ (n_1 : Int),
 v = int IntKind.i64 n_1 ∧
 CallA Try.prog 167
 [slice data datan datac, int IntKind.i64 (IntKind.wrap IntKind.i64 (a + IntKind.wrap IntKind.i64 (IntKind.wrap IntKind.i64 (Int.tdiv (IntKind.wrap IntKind.i64 (b - a)) 4) * 3))),
 pointer (some { block := r, off := 0 }), func (Fn.func fn_split_by_order) #[agg #[slice cmp_0 cmp_0n cmp_0c]] #[]]
 h fun (v : Value) (h : Heap) =>
 ∃ (n_2 : Int),
 v = int IntKind.i64 n_2 ∧
 CallA Try.prog 168
 [slice data datan datac, int IntKind.i64 n, int IntKind.i64 n_1, int IntKind.i64 n_2, pointer (some { block := r, off := 0 }), func (Fn.func fn_split_by_order) #[agg #[slice cmp_0 cmp_0n cmp_0c]] #[]] h
 fun (v : Value) (h : Heap) =>
 ∃ (n : Int),
 v = int IntKind.i64 n ∧
 ∃ (n_3 : Int),
 Heap.cell h r 0 = some (int IntKind.i64 n_3) ∧
 Br (n_3 == 0) (Ret h K (tuple #[int IntKind.i64 n, int IntKind.i64 1]))
 (Br (n_3 == 12) (Ret h K (tuple #[int IntKind.i64 n, int IntKind.i64 2])) (Ret h K (tuple #[int IntKind.i64 n, int IntKind.i64 0]))))
 (CallA Try.prog 168
 [slice data datan datac, int IntKind.i64 (IntKind.wrap IntKind.i64 (a + IntKind.wrap IntKind.i64 (IntKind.wrap IntKind.i64 (Int.tdiv (IntKind.wrap IntKind.i64 (b - a)) 4) * 1))),
 int IntKind.i64 (IntKind.wrap IntKind.i64 (a + IntKind.wrap IntKind.i64 (IntKind.wrap IntKind.i64 (Int.tdiv (IntKind.wrap IntKind.i64 (b - a)) 4) * 2))),
 int IntKind.i64 (IntKind.wrap IntKind.i64 (a + IntKind.wrap IntKind.i64 (IntKind.wrap IntKind.i64 (Int.tdiv (IntKind.wrap IntKind.i64 (b - a)) 4) * 3))), pointer (some { block := r, off := 0 }),
 func (Fn.func fn_split_by_order) #[agg #[slice cmp_0 cmp_0n cmp_0c]] #[]]
 h fun (v : Value) (h : Heap) =>
 ∃ (n : Int),
 v = int IntKind.i64 n ∧
 ∃ (n_1 : Int),
 Heap.cell h r 0 = some (int IntKind.i64 n_1) ∧
 Br (n_1 == 0) (Ret h K (tuple #[int IntKind.i64 n, int IntKind.i64 1]))
 (Br (n_1 == 12) (Ret h K (tuple #[int IntKind.i64 n, int IntKind.i64 2])) (Ret h K (tuple #[int IntKind.i64 n, int IntKind.i64 0])))))
 (∃ (n : Int),
 Heap.cell h r 0 = some (int IntKind.i64 n) ∧
 Br (n == 0) (Ret h K (tuple #[int IntKind.i64 (IntKind.wrap IntKind.i64 (a + IntKind.wrap IntKind.i64 (IntKind.wrap IntKind.i64 (Int.tdiv (IntKind.wrap IntKind.i64 (b - a)) 4) * 2))), int IntKind.i64 1]))
 (Br (n == 12) (Ret h K (tuple #[int IntKind.i64 (IntKind.wrap IntKind.i64 (a + IntKind.wrap IntKind.i64 (IntKind.wrap IntKind.i64 (Int.tdiv (IntKind.wrap IntKind.i64 (b - a)) 4) * 2))), int IntKind.i64 2]))
 (Ret h K (tuple #[int IntKind.i64 (IntKind.wrap IntKind.i64 (a + IntKind.wrap IntKind.i64 (IntKind.wrap IntKind.i64 (Int.tdiv (IntKind.wrap IntKind.i64 (b - a)) 4) * 2))), int IntKind.i64 0]))))
theorem F_slices_choosePivotCmpFunc_int (data : Option Addr) (datan : Nat) (datac : Nat) (a : Int) (b : Int) (cmp_0 : Option Addr) (cmp_0n : Nat) (cmp_0c : Nat) (h : Heap) (K : Value → Heap → Prop) (k : F_slices_choosePivotCmpFunc_intT data datan datac a b cmp_0 cmp_0n cmp_0c h K) : CallA Try.prog fn_slices_choosePivotCmpFunc_int [slice data datan datac, int IntKind.i64 a, int IntKind.i64 b, func (Fn.func fn_split_by_order) #[agg #[slice cmp_0 cmp_0n cmp_0c]] #[]] h K :=
 CallA.of_ev (cs := []) Try.func140 (by kernel_rfl) (fun _ _ => Try.call140 _ _) mixed (by kernel_rfl) (by kernel_rfl) k
def F_slices_order2CmpFunc_intT (data : Option Addr) (datan : Nat) (datac : Nat) (a : Int) (b : Int) (swaps : Option Addr) (cmp_0 : Option Addr) (cmp_0n : Nat) (cmp_0c : Nat) (h : Heap) (K : Value → Heap → Prop) : Prop :=
 0 ≤ b ∧
 b < (↑datan : Int) ∧
 withAddr data fun (b_1 o : Nat) =>
 ∃ (n : Int),
 Heap.cell h b_1 (o + Int.toNat b) = some (int IntKind.i64 n) ∧
 0 ≤ a ∧
 a < (↑datan : Int) ∧
 withAddr data fun (b_2 o : Nat) =>
 ∃ (n_1 : Int),
 Heap.cell h b_2 (o + Int.toNat a) = some (int IntKind.i64 n_1) ∧
 CallA Try.prog fn_split_by_order [agg #[slice cmp_0 cmp_0n cmp_0c], int IntKind.i64 n, int IntKind.i64 n_1] h fun (v : Value) (h : Heap) =>
 ∃ (n : Int),
 v = int IntKind.i64 n ∧
 Br (decide (n < 0))
 (withAddr swaps fun (b_3 o : Nat) =>
 ∃ (n : Int),
 Heap.cell h b_3 o = some (int IntKind.i64 n) ∧
 withAddr swaps fun (b_4 o : Nat) => Heap.canSt h b_4 o 1 ∧ Ret (Heap.setN h b_4 o [int IntKind.i64 (IntKind.wrap IntKind.i64 (n + 1))]) K (tuple #[int IntKind.i64 b, int IntKind.i64 a]))
 (Ret h K (tuple #[int IntKind.i64 a, int IntKind.i64 b]))
theorem F_slices_order2CmpFunc_int (data : Option Addr) (datan : Nat) (datac : Nat) (a : Int) (b : Int) (swaps : Option Addr) (cmp_0 : Option Addr) (cmp_0n : Nat) (cmp_0c : Nat) (h : Heap) (K : Value → Heap → Prop) (k : F_slices_order2CmpFunc_intT data datan datac a b swaps cmp_0 cmp_0n cmp_0c h K) : CallA Try.prog fn_slices_order2CmpFunc_int [slice data datan datac, int IntKind.i64 a, int IntKind.i64 b, pointer swaps, func (Fn.func fn_split_by_order) #[agg #[slice cmp_0 cmp_0n cmp_0c]] #[]] h K :=
 CallA.of_ev (cs := []) Try.func171 (by kernel_rfl) (fun _ _ => Try.call171 _ _) mixed (by kernel_rfl) (by kernel_rfl) k
def F_slices_medianCmpFunc_intT (data : Option Addr) (datan : Nat) (datac : Nat) (a : Int) (b : Int) (c : Int) (swaps : Option Addr) (cmp_0 : Option Addr) (cmp_0n : Nat) (cmp_0c : Nat) (h : Heap) (K : Value → Heap → Prop) : Prop :=
 CallA Try.prog fn_slices_order2CmpFunc_int [slice data datan datac, int IntKind.i64 a, int IntKind.i64 b, pointer swaps, func (Fn.func fn_split_by_order) #[agg #[slice cmp_0 cmp_0n cmp_0c]] #[]] h fun (v : Value) (h : Heap) =>
 ∃ (n : Int),
 ∃ (n_1 : Int),
 v = tuple #[int IntKind.i64 n, int IntKind.i64 n_1] ∧
 CallA Try.prog fn_slices_order2CmpFunc_int [slice data datan datac, int IntKind.i64 n_1, int IntKind.i64 c, pointer swaps, func (Fn.func fn_split_by_order) #[agg #[slice cmp_0 cmp_0n cmp_0c]] #[]] h fun (v : Value) (h : Heap) =>
 ∃ (n_2 : Int),
 ∃ (n_3 : Int),
 v = tuple #[int IntKind.i64 n_2, int IntKind.i64 n_3] ∧
 CallA Try.prog fn_slices_order2CmpFunc_int [slice data datan datac, int IntKind.i64 n, int IntKind.i64 n_2, pointer swaps, func (Fn.func fn_split_by_order) #[agg #[slice cmp_0 cmp_0n cmp_0c]] #[]] h fun (v : Value) (h : Heap) =>
 ∃ (n : Int), ∃ (n_4 : Int), v = tuple #[int IntKind.i64 n, int IntKind.i64 n_4] ∧ Ret h K (int IntKind.i64 n_4)
theorem F_slices_medianCmpFunc_int (data : Option Addr) (datan : Nat) (datac : Nat) (a : Int) (b : Int) (c : Int) (swaps : Option Addr) (cmp_0 : Option Addr) (cmp_0n : Nat) (cmp_0c : Nat) (h : Heap) (K : Value → Heap → Prop) (k : F_slices_medianCmpFunc_intT data datan datac a b c swaps cmp_0 cmp_0n cmp_0c h K) : CallA Try.prog fn_slices_medianCmpFunc_int [slice data datan datac, int IntKind.i64 a, int IntKind.i64 b, int IntKind.i64 c, pointer swaps, func (Fn.func fn_split_by_order) #[agg #[slice cmp_0 cmp_0n cmp_0c]] #[]] h K :=
 CallA.of_ev (cs := []) Try.func168 (by kernel_rfl) (fun _ _ => Try.call168 _ _) mixed (by kernel_rfl) (by kernel_rfl) k
def F_slices_medianAdjacentCmpFunc_intT (data : Option Addr) (datan : Nat) (datac : Nat) (a : Int) (swaps : Option Addr) (cmp_0 : Option Addr) (cmp_0n : Nat) (cmp_0c : Nat) (h : Heap) (K : Value → Heap → Prop) : Prop :=
 CallA Try.prog 168
 [slice data datan datac, int IntKind.i64 (IntKind.wrap IntKind.i64 (a - 1)), int IntKind.i64 a, int IntKind.i64 (IntKind.wrap IntKind.i64 (a + 1)), pointer swaps,
 func (Fn.func fn_split_by_order) #[agg #[slice cmp_0 cmp_0n cmp_0c]] #[]]
 h fun (v : Value) (h : Heap) => ∃ (n : Int), v = int IntKind.i64 n ∧ Ret h K (int IntKind.i64 n)
theorem F_slices_medianAdjacentCmpFunc_int (data : Option Addr) (datan : Nat) (datac : Nat) (a : Int) (swaps : Option Addr) (cmp_0 : Option Addr) (cmp_0n : Nat) (cmp_0c : Nat) (h : Heap) (K : Value → Heap → Prop) (k : F_slices_medianAdjacentCmpFunc_intT data datan datac a swaps cmp_0 cmp_0n cmp_0c h K) : CallA Try.prog fn_slices_medianAdjacentCmpFunc_int [slice data datan datac, int IntKind.i64 a, pointer swaps, func (Fn.func fn_split_by_order) #[agg #[slice cmp_0 cmp_0n cmp_0c]] #[]] h K :=
 CallA.of_ev (cs := []) Try.func167 (by kernel_rfl) (fun _ _ => Try.call167 _ _) mixed (by kernel_rfl) (by kernel_rfl) k
def F_slices_nextPowerOfTwoT (length : Int) (h : Heap) (K : Value → Heap → Prop) : Prop :=
 CallA Try.prog fn_math_bits_Len [int IntKind.u64 (IntKind.wrap IntKind.u64 length)] h fun (v : Value) (h : Heap) =>
 ∃ (n : Int), v = int IntKind.i64 n ∧ Br (decide (0 ≤ n)) (Ret h K (int IntKind.u64 (IntKind.wrap IntKind.u64 (1 * 2 ^ min (Int.toNat n) 64)))) False
theorem F_slices_nextPowerOfTwo (length : Int) (h : Heap) (K : Value → Heap → Prop) (k : F_slices_nextPowerOfTwoT length h K) : CallA Try.prog fn_slices_nextPowerOfTwo [int IntKind.i64 length] h K :=
 CallA.of_ev (cs := []) Try.func165 (by kernel_rfl) (fun _ _ => Try.call165 _ _) mixed (by kernel_rfl) (by kernel_rfl) k
def F_pslices_xorshift_NextT (r : Option Addr) (h : Heap) (K : Value → Heap → Prop) : Prop :=
 withAddr r fun (b o : Nat) =>
 ∃ (n : Int),
 Heap.cell h b o = some (int IntKind.u64 n) ∧
 withAddr r fun (b o : Nat) =>
 ∃ (n_1 : Int),
 Heap.cell h b o = some (int IntKind.u64 n_1) ∧
 withAddr r fun (b o : Nat) =>
 Heap.canSt h b o 1 ∧
 withAddr r fun (b_1 o_1 : Nat) =>
 ∃ (n_2 : Int),
 Heap.cell (Heap.setN h b o [int IntKind.u64 (IntKind.wrap IntKind.u64 (↑(BitVec.toNat (BitVec.ofInt 64 n ^^^ BitVec.ofInt 64 (IntKind.wrap IntKind.u64 (n_1 * 8192)))) : Int))]) b_1 o_1 =
 some (int IntKind.u64 n_2) ∧
 withAddr r fun (b_2 o_2 : Nat) =>
 ∃ (n_3 : Int),
 Heap.cell (Heap.setN h b o [int IntKind.u64 (IntKind.wrap IntKind.u64 (↑(BitVec.toNat (BitVec.ofInt 64 n ^^^ BitVec.ofInt 64 (IntKind.wrap IntKind.u64 (n_1 * 8192)))) : Int))]) b_2 o_2 =
 some (int IntKind.u64 n_3) ∧
 withAddr r fun (b_3 o_3 : Nat) =>
 Heap.canSt (Heap.setN h b o [int IntKind.u64 (IntKind.wrap IntKind.u64 (↑(BitVec.toNat (BitVec.ofInt 64 n ^^^ BitVec.ofInt 64 (IntKind.wrap IntKind.u64 (n_1 * 8192)))) : Int))]) b_3 o_3 1 ∧
 withAddr r fun (b_4 o_4 : Nat) =>
 ∃ (n_4 : Int),
 Heap.cell
 (Heap.setN (Heap.setN h b o [int IntKind.u64 (IntKind.wrap IntKind.u64 (↑(BitVec.toNat (BitVec.ofInt 64 n ^^^ BitVec.ofInt 64 (IntKind.wrap IntKind.u64 (n_1 * 8192)))) : Int))])
 b_3 o_3 [int IntKind.u64 (IntKind.wrap IntKind.u64 (↑(BitVec.toNat (BitVec.ofInt 64 n_2 ^^^ BitVec.ofInt 64 (Int.fdiv n_3 128))) : Int))])
 b_4 o_4 =
 some (int IntKind.u64 n_4) ∧
 withAddr r fun (b_5 o_5 : Nat) =>
 ∃ (n_5 : Int),
 Heap.cell
 (Heap.setN
 (Heap.setN h b o [int IntKind.u64 (IntKind.wrap IntKind.u64 (↑(BitVec.toNat (BitVec.ofInt 64 n ^^^ BitVec.ofInt 64 (IntKind.wrap IntKind.u64 (n_1 * 8192)))) : Int))]) b_3
 o_3 [int IntKind.u64 (IntKind.wrap IntKind.u64 (↑(BitVec.toNat (BitVec.ofInt 64 n_2 ^^^ BitVec.ofInt 64 (Int.fdiv n_3 128))) : Int))])
 b_5 o_5 =
 some (int IntKind.u64 n_5) ∧
 withAddr r fun (b_6 o_6 : Nat) =>
 Heap.canSt
 (Heap.setN
 (Heap.setN h b o [int IntKind.u64 (IntKind.wrap IntKind.u64 (↑(BitVec.toNat (BitVec.ofInt 64 n ^^^ BitVec.ofInt 64 (IntKind.wrap IntKind.u64 (n_1 * 8192)))) : Int))])
 b_3 o_3 [int IntKind.u64 (IntKind.wrap IntKind.u64 (↑(BitVec.toNat (BitVec.ofInt 64 n_2 ^^^ BitVec.ofInt 64 (Int.fdiv n_3 128))) : Int))])
 b_6 o_6 1 ∧
 withAddr r fun (b_7 o_7 : Nat) =>
 ∃ (n_6 : Int),
 Heap.cell
 (Heap.setN
 (Heap.setN
 (Heap.setN h b o
 [int IntKind.u64 (IntKind.wrap IntKind.u64 (↑(BitVec.toNat (BitVec.ofInt 64 n ^^^ BitVec.ofInt 64 (IntKind.wrap IntKind.u64 (n_1 * 8192)))) : Int))])
 b_3 o_3 [int IntKind.u64 (IntKind.wrap IntKind.u64 (↑(BitVec.toNat (BitVec.ofInt 64 n_2 ^^^ BitVec.ofInt 64 (Int.fdiv n_3 128))) : Int))])
 b_6 o_6
 [int IntKind.u64 (IntKind.wrap IntKind.u64 (↑(BitVec.toNat (BitVec.ofInt 64 n_4 ^^^ BitVec.ofInt 64 (IntKind.wrap IntKind.u64 (n_5 * 131072)))) : Int))])
 b_7 o_7 =
 some (int IntKind.u64 n_6) ∧
 Ret
 (Heap.setN
 (Heap.setN
 (Heap.setN h b o
 [int IntKind.u64 (IntKind.wrap IntKind.u64 (↑(BitVec.toNat (BitVec.ofInt 64 n ^^^ BitVec.ofInt 64 (IntKind.wrap IntKind.u64 (n_1 * 8192)))) : Int))])
 b_3 o_3 [int IntKind.u64 (IntKind.wrap IntKind.u64 (↑(BitVec.toNat (BitVec.ofInt 64 n_2 ^^^ BitVec.ofInt 64 (Int.fdiv n_3 128))) : Int))])
 b_6 o_6 [int IntKind.u64 (IntKind.wrap IntKind.u64 (↑(BitVec.toNat (BitVec.ofInt 64 n_4 ^^^ BitVec.ofInt 64 (IntKind.wrap IntKind.u64 (n_5 * 131072)))) : Int))])
 K (int IntKind.u64 n_6)
theorem F_pslices_xorshift_Next (r : Option Addr) (h : Heap) (K : Value → Heap → Prop) (k : F_pslices_xorshift_NextT r h K) : CallA Try.prog fn_pslices_xorshift_Next [pointer r] h K :=
 CallA.of_ev (cs := []) Try.func166 (by kernel_rfl) (fun _ _ => Try.call166 _ _) mixed (by kernel_rfl) (by kernel_rfl) k
def F_math_bits_LenT (x : Int) (h : Heap) (K : Value → Heap → Prop) : Prop :=
 CallA Try.prog fn_math_bits_Len64 [int IntKind.u64 x] h fun (v : Value) (h : Heap) => ∃ (n : Int), v = int IntKind.i64 n ∧ Ret h K (int IntKind.i64 n)
theorem F_math_bits_Len (x : Int) (h : Heap) (K : Value → Heap → Prop) (k : F_math_bits_LenT x h K) : CallA Try.prog fn_math_bits_Len [int IntKind.u64 x] h K :=
 CallA.of_ev (cs := []) Try.func105 (by kernel_rfl) (fun _ _ => Try.call105 _ _) mixed (by kernel_rfl) (by kernel_rfl) k
def F_math_bits_Len64T (x : Int) (h : Heap) (K : Value → Heap → Prop) : Prop :=
 Br (decide (x ≥ 4294967296))
 (Br (decide (Int.fdiv x 4294967296 ≥ 65536))
 (Br (decide (Int.fdiv (Int.fdiv x 4294967296) 65536 ≥ 256))
 (0 ≤ IntKind.wrap IntKind.u8 (Int.fdiv (Int.fdiv (Int.fdiv x 4294967296) 65536) 256) ∧
 ∃ (c : UInt8),
 (ByteArray.mk (List.toArray (List.append (List.append [0, 1, 2, 2, 3, 3, 3, 3, 4, 4, 4, 4, 4, 4, 4, 4, 5, 5, 5, 5, 5, 5, 5, 5, 5, 5, 5, 5, 5, 5, 5, 5, 6, 6, 6, 6, 6, 6, 6, 6, 6, 6, 6, 6, 6, 6, 6, 6, 6, 6, 6, 6, 6, 6, 6, 6, 6, 6, 6, 6, 6, 6, 6, 6] [7, 7, 7, 7, 7, 7, 7, 7, 7, 7, 7, 7, 7, 7, 7, 7, 7, 7, 7, 7, 7, 7, 7, 7, 7, 7, 7, 7, 7, 7, 7, 7, 7, 7, 7, 7, 7, 7, 7, 7, 7, 7, 7, 7, 7, 7, 7, 7, 7, 7, 7, 7, 7, 7, 7, 7, 7, 7, 7, 7, 7, 7, 7, 7]) (List.append [8, 8, 8, 8, 8, 8, 8, 8, 8, 8, 8, 8, 8, 8, 8, 8, 8, 8, 8, 8, 8, 8, 8, 8, 8, 8, 8, 8, 8, 8, 8, 8, 8, 8, 8, 8, 8, 8, 8, 8, 8, 8, 8, 8, 8, 8, 8, 8, 8, 8, 8, 8, 8, 8, 8, 8, 8, 8, 8, 8, 8, 8, 8, 8] [8, 8, 8, 8, 8, 8, 8, 8, 8, 8, 8, 8, 8, 8, 8, 8, 8, 8, 8, 8, 8, 8, 8, 8, 8, 8, 8, 8, 8, 8, 8, 8, 8, 8, 8, 8, 8, 8, 8, 8, 8, 8, 8, 8, 8, 8, 8, 8, 8, 8, 8, 8, 8, 8, 8, 8, 8, 8, 8, 8, 8, 8, 8, 8]))))[Int.toNat (IntKind.wrap IntKind.u8 (Int.fdiv (Int.fdiv (Int.fdiv x 4294967296) 65536) 256))]? =
 some c ∧
 Ret h K (int IntKind.i64 (IntKind.wrap IntKind.i64 (56 + IntKind.wrap IntKind.i64 (↑(UInt8.toNat c) : Int)))))
 (0 ≤ IntKind.wrap IntKind.u8 (Int.fdiv (Int.fdiv x 4294967296) 65536) ∧
 ∃ (c : UInt8),
 (ByteArray.mk (List.toArray (List.append (List.append [0, 1, 2, 2, 3, 3, 3, 3, 4, 4, 4, 4, 4, 4, 4, 4, 5, 5, 5, 5, 5, 5, 5, 5, 5, 5, 5, 5, 5, 5, 5, 5, 6, 6, 6, 6, 6, 6, 6, 6, 6, 6, 6, 6, 6, 6, 6, 6, 6, 6, 6, 6, 6, 6, 6, 6, 6, 6, 6, 6, 6, 6, 6, 6] [7, 7, 7, 7, 7, 7, 7, 7, 7, 7, 7, 7, 7, 7, 7, 7, 7, 7, 7, 7, 7, 7, 7, 7, 7, 7, 7, 7, 7, 7, 7, 7, 7, 7, 7, 7, 7, 7, 7, 7, 7, 7, 7, 7, 7, 7, 7, 7, 7, 7, 7, 7, 7, 7, 7, 7, 7, 7, 7, 7, 7, 7, 7, 7]) (List.append [8, 8, 8, 8, 8, 8, 8, 8, 8, 8, 8, 8, 8, 8, 8, 8, 8, 8, 8, 8, 8, 8, 8, 8, 8, 8, 8, 8, 8, 8, 8, 8, 8, 8, 8, 8, 8, 8, 8, 8, 8, 8, 8, 8, 8, 8, 8, 8, 8, 8, 8, 8, 8, 8, 8, 8, 8, 8, 8, 8, 8, 8, 8, 8] [8, 8, 8, 8, 8, 8, 8, 8, 8, 8, 8, 8, 8, 8, 8, 8, 8, 8, 8, 8, 8, 8, 8, 8, 8, 8, 8, 8, 8, 8, 8, 8, 8, 8, 8, 8, 8, 8, 8, 8, 8, 8, 8, 8, 8, 8, 8, 8, 8, 8, 8, 8, 8, 8, 8, 8, 8, 8, 8, 8, 8, 8, 8, 8]))))[Int.toNat (IntKind.wrap IntKind.u8 (Int.fdiv (Int.fdiv x 4294967296) 65536))]? =
 some c ∧
 Ret h K (int IntKind.i64 (IntKind.wrap IntKind.i64 (48 + IntKind.wrap IntKind.i64 (↑(UInt8.toNat c) : Int))))))
 (Br (decide (Int.fdiv x 4294967296 ≥ 256))
 (0 ≤ IntKind.wrap IntKind.u8 (Int.fdiv (Int.fdiv x 4294967296) 256) ∧
 ∃ (c : UInt8),
 (ByteArray.mk (List.toArray (List.append (List.append [0, 1, 2, 2, 3, 3, 3, 3, 4, 4, 4, 4, 4, 4, 4, 4, 5, 5, 5, 5, 5, 5, 5, 5, 5, 5, 5, 5, 5, 5, 5, 5, 6, 6, 6, 6, 6, 6, 6, 6, 6, 6, 6, 6, 6, 6, 6, 6, 6, 6, 6, 6, 6, 6, 6, 6, 6, 6, 6, 6, 6, 6, 6, 6] [7, 7, 7, 7, 7, 7, 7, 7, 7, 7, 7, 7, 7, 7, 7, 7, 7, 7, 7, 7, 7, 7, 7, 7, 7, 7, 7, 7, 7, 7, 7, 7, 7, 7, 7, 7, 7, 7, 7, 7, 7, 7, 7, 7, 7, 7, 7, 7, 7, 7, 7, 7, 7, 7, 7, 7, 7, 7, 7, 7, 7, 7, 7, 7]) (List.append [8, 8, 8, 8, 8, 8, 8, 8, 8, 8, 8, 8, 8, 8, 8, 8, 8, 8, 8, 8, 8, 8, 8, 8, 8, 8, 8, 8, 8, 8, 8, 8, 8, 8, 8, 8, 8, 8, 8, 8, 8, 8, 8, 8, 8, 8, 8, 8, 8, 8, 8, 8, 8, 8, 8, 8, 8, 8, 8, 8, 8, 8, 8, 8] [8, 8, 8, 8, 8, 8, 8, 8, 8, 8, 8, 8, 8, 8, 8, 8, 8, 8, 8, 8, 8, 8, 8, 8, 8, 8, 8, 8, 8, 8, 8, 8, 8, 8, 8, 8, 8, 8, 8, 8, 8, 8, 8, 8, 8, 8, 8, 8, 8, 8, 8, 8, 8, 8, 8, 8, 8, 8, 8, 8, 8, 8, 8, 8]))))[Int.toNat (IntKind.wrap IntKind.u8 (Int.fdiv (Int.fdiv x 4294967296) 256))]? =
 some c ∧
 Ret h K (int IntKind.i64 (IntKind.wrap IntKind.i64 (40 + IntKind.wrap IntKind.i64 (↑(UInt8.toNat c) : Int)))))
 (0 ≤ IntKind.wrap IntKind.u8 (Int.fdiv x 4294967296) ∧
 ∃ (c : UInt8),
 (ByteArray.mk (List.toArray (List.append (List.append [0, 1, 2, 2, 3, 3, 3, 3, 4, 4, 4, 4, 4, 4, 4, 4, 5, 5, 5, 5, 5, 5, 5, 5, 5, 5, 5, 5, 5, 5, 5, 5, 6, 6, 6, 6, 6, 6, 6, 6, 6, 6, 6, 6, 6, 6, 6, 6, 6, 6, 6, 6, 6, 6, 6, 6, 6, 6, 6, 6, 6, 6, 6, 6] [7, 7, 7, 7, 7, 7, 7, 7, 7, 7, 7, 7, 7, 7, 7, 7, 7, 7, 7, 7, 7, 7, 7, 7, 7, 7, 7, 7, 7, 7, 7, 7, 7, 7, 7, 7, 7, 7, 7, 7, 7, 7, 7, 7, 7, 7, 7, 7, 7, 7, 7, 7, 7, 7, 7, 7, 7, 7, 7, 7, 7, 7, 7, 7]) (List.append [8, 8, 8, 8, 8, 8, 8, 8, 8, 8, 8, 8, 8, 8, 8, 8, 8, 8, 8, 8, 8, 8, 8, 8, 8, 8, 8, 8, 8, 8, 8, 8, 8, 8, 8, 8, 8, 8, 8, 8, 8, 8, 8, 8, 8, 8, 8, 8, 8, 8, 8, 8, 8, 8, 8, 8, 8, 8, 8, 8, 8, 8, 8, 8] [8, 8, 8, 8, 8, 8, 8, 8, 8, 8, 8, 8, 8, 8, 8, 8, 8, 8, 8, 8, 8, 8, 8, 8, 8, 8, 8, 8, 8, 8, 8, 8, 8, 8, 8, 8, 8, 8, 8, 8, 8, 8, 8, 8, 8, 8, 8, 8, 8, 8, 8, 8, 8, 8, 8, 8, 8, 8, 8, 8, 8, 8, 8, 8]))))[Int.toNat (IntKind.wrap IntKind.u8 (Int.fdiv x 4294967296))]? =
 some c ∧
 Ret h K (int IntKind.i64 (IntKind.wrap IntKind.i64 (32 + IntKind.wrap IntKind.i64 (↑(UInt8.toNat c) : Int)))))))
 (Br (decide (x ≥ 65536))
 (Br (decide (Int.fdiv x 65536 ≥ 256))
 (0 ≤ IntKind.wrap IntKind.u8 (Int.fdiv (Int.fdiv x 65536) 256) ∧
 ∃ (c : UInt8),
 (ByteArray.mk (List.toArray (List.append (List.append [0, 1, 2, 2, 3, 3, 3, 3, 4, 4, 4, 4, 4, 4, 4, 4, 5, 5, 5, 5, 5, 5, 5, 5, 5, 5, 5, 5, 5, 5, 5, 5, 6, 6, 6, 6, 6, 6, 6, 6, 6, 6, 6, 6, 6, 6, 6, 6, 6, 6, 6, 6, 6, 6, 6, 6, 6, 6, 6, 6, 6, 6, 6, 6] [7, 7, 7, 7, 7, 7, 7, 7, 7, 7, 7, 7, 7, 7, 7, 7, 7, 7, 7, 7, 7, 7, 7, 7, 7, 7, 7, 7, 7, 7, 7, 7, 7, 7, 7, 7, 7, 7, 7, 7, 7, 7, 7, 7, 7, 7, 7, 7, 7, 7, 7, 7, 7, 7, 7, 7, 7, 7, 7, 7, 7, 7, 7, 7]) (List.append [8, 8, 8, 8, 8, 8, 8, 8, 8, 8, 8, 8, 8, 8, 8, 8, 8, 8, 8, 8, 8, 8, 8, 8, 8, 8, 8, 8, 8, 8, 8, 8, 8, 8, 8, 8, 8, 8, 8, 8, 8, 8, 8, 8, 8, 8, 8, 8, 8, 8, 8, 8, 8, 8, 8, 8, 8, 8, 8, 8, 8, 8, 8, 8] [8, 8, 8, 8, 8, 8, 8, 8, 8, 8, 8, 8, 8, 8, 8, 8, 8, 8, 8, 8, 8, 8, 8, 8, 8, 8, 8, 8, 8, 8, 8, 8, 8, 8, 8, 8, 8, 8, 8, 8, 8, 8, 8, 8, 8, 8, 8, 8, 8, 8, 8, 8, 8, 8, 8, 8, 8, 8, 8, 8, 8, 8, 8, 8]))))[Int.toNat (IntKind.wrap IntKind.u8 (Int.fdiv (Int.fdiv x 65536) 256))]? =
 some c ∧
 Ret h K (int IntKind.i64 (IntKind.wrap IntKind.i64 (24 + IntKind.wrap IntKind.i64 (↑(UInt8.toNat c) : Int)))))
 (0 ≤ IntKind.wrap IntKind.u8 (Int.fdiv x 65536) ∧
 ∃ (c : UInt8),
 (ByteArray.mk (List.toArray (List.append (List.append [0, 1, 2, 2, 3, 3, 3, 3, 4, 4, 4, 4, 4, 4, 4, 4, 5, 5, 5, 5, 5, 5, 5, 5, 5, 5, 5, 5, 5, 5, 5, 5, 6, 6, 6, 6, 6, 6, 6, 6, 6, 6, 6, 6, 6, 6, 6, 6, 6, 6, 6, 6, 6, 6, 6, 6, 6, 6, 6, 6, 6, 6, 6, 6] [7, 7, 7, 7, 7, 7, 7, 7, 7, 7, 7, 7, 7, 7, 7, 7, 7, 7, 7, 7, 7, 7, 7, 7, 7, 7, 7, 7, 7, 7, 7, 7, 7, 7, 7, 7, 7, 7, 7, 7, 7, 7, 7, 7, 7, 7, 7, 7, 7, 7, 7, 7, 7, 7, 7, 7, 7, 7, 7, 7, 7, 7, 7, 7]) (List.append [8, 8, 8, 8, 8, 8, 8, 8, 8, 8, 8, 8, 8, 8, 8, 8, 8, 8, 8, 8, 8, 8, 8, 8, 8, 8, 8, 8, 8, 8, 8, 8, 8, 8, 8, 8, 8, 8, 8, 8, 8, 8, 8, 8, 8, 8, 8, 8, 8, 8, 8, 8, 8, 8, 8, 8, 8, 8, 8, 8, 8, 8, 8, 8] [8, 8, 8, 8, 8, 8, 8, 8, 8, 8, 8, 8, 8, 8, 8, 8, 8, 8, 8, 8, 8, 8, 8, 8, 8, 8, 8, 8, 8, 8, 8, 8, 8, 8, 8, 8, 8, 8, 8, 8, 8, 8, 8, 8, 8, 8, 8, 8, 8, 8, 8, 8, 8, 8, 8, 8, 8, 8, 8, 8, 8, 8, 8, 8]))))[Int.toNat (IntKind.wrap IntKind.u8 (Int.fdiv x 65536))]? =
 some c ∧
 Ret h K (int IntKind.i64 (IntKind.wrap IntKind.i64 (16 + IntKind.wrap IntKind.i64 (↑(UInt8.toNat c) : Int))))))
 (Br (decide (x ≥ 256))
 (0 ≤ IntKind.wrap IntKind.u8 (Int.fdiv x 256) ∧
 ∃ (c : UInt8),
 (ByteArray.mk (List.toArray (List.append (List.append [0, 1, 2, 2, 3, 3, 3, 3, 4, 4, 4, 4, 4, 4, 4, 4, 5, 5, 5, 5, 5, 5, 5, 5, 5, 5, 5, 5, 5, 5, 5, 5, 6, 6, 6, 6, 6, 6, 6, 6, 6, 6, 6, 6, 6, 6, 6, 6, 6, 6, 6, 6, 6, 6, 6, 6, 6, 6, 6, 6, 6, 6, 6, 6] [7, 7, 7, 7, 7, 7, 7, 7, 7, 7, 7, 7, 7, 7, 7, 7, 7, 7, 7, 7, 7, 7, 7, 7, 7, 7, 7, 7, 7, 7, 7, 7, 7, 7, 7, 7, 7, 7, 7, 7, 7, 7, 7, 7, 7, 7, 7, 7, 7, 7, 7, 7, 7, 7, 7, 7, 7, 7, 7, 7, 7, 7, 7, 7]) (List.append [8, 8, 8, 8, 8, 8, 8, 8, 8, 8, 8, 8, 8, 8, 8, 8, 8, 8, 8, 8, 8, 8, 8, 8, 8, 8, 8, 8, 8, 8, 8, 8, 8, 8, 8, 8, 8, 8, 8, 8, 8, 8, 8, 8, 8, 8, 8, 8, 8, 8, 8, 8, 8, 8, 8, 8, 8, 8, 8, 8, 8, 8, 8, 8] [8, 8, 8, 8, 8, 8, 8, 8, 8, 8, 8, 8, 8, 8, 8, 8, 8, 8, 8, 8, 8, 8, 8, 8, 8, 8, 8, 8, 8, 8, 8, 8, 8, 8, 8, 8, 8, 8, 8, 8, 8, 8, 8, 8, 8, 8, 8, 8, 8, 8, 8, 8, 8, 8, 8, 8, 8, 8, 8, 8, 8, 8, 8, 8]))))[Int.toNat (IntKind.wrap IntKind.u8 (Int.fdiv x 256))]? =
 some c ∧
 Ret h K (int IntKind.i64 (IntKind.wrap IntKind.i64 (8 + IntKind.wrap IntKind.i64 (↑(UInt8.toNat c) : Int)))))
 (0 ≤ IntKind.wrap IntKind.u8 x ∧
 ∃ (c : UInt8),
 (ByteArray.mk (List.toArray (List.append (List.append [0, 1, 2, 2, 3, 3, 3, 3, 4, 4, 4, 4, 4, 4, 4, 4, 5, 5, 5, 5, 5, 5, 5, 5, 5, 5, 5, 5, 5, 5, 5, 5, 6, 6, 6, 6, 6, 6, 6, 6, 6, 6, 6, 6, 6, 6, 6, 6, 6, 6, 6, 6, 6, 6, 6, 6, 6, 6, 6, 6, 6, 6, 6, 6] [7, 7, 7, 7, 7, 7, 7, 7, 7, 7, 7, 7, 7, 7, 7, 7, 7, 7, 7, 7, 7, 7, 7, 7, 7, 7, 7, 7, 7, 7, 7, 7, 7, 7, 7, 7, 7, 7, 7, 7, 7, 7, 7, 7, 7, 7, 7, 7, 7, 7, 7, 7, 7, 7, 7, 7, 7, 7, 7, 7, 7, 7, 7, 7]) (List.append [8, 8, 8, 8, 8, 8, 8, 8, 8, 8, 8, 8, 8, 8, 8, 8, 8, 8, 8, 8, 8, 8, 8, 8, 8, 8, 8, 8, 8, 8, 8, 8, 8, 8, 8, 8, 8, 8, 8, 8, 8, 8, 8, 8, 8, 8, 8, 8, 8, 8, 8, 8, 8, 8, 8, 8, 8, 8, 8, 8, 8, 8, 8, 8] [8, 8, 8, 8, 8, 8, 8, 8, 8, 8, 8, 8, 8, 8, 8, 8, 8, 8, 8, 8, 8, 8, 8, 8, 8, 8, 8, 8, 8, 8, 8, 8, 8, 8, 8, 8, 8, 8, 8, 8, 8, 8, 8, 8, 8, 8, 8, 8, 8, 8, 8, 8, 8, 8, 8, 8, 8, 8, 8, 8, 8, 8, 8, 8]))))[Int.toNat (IntKind.wrap IntKind.u8 x)]? =
 some c ∧
 Ret h K (int IntKind.i64 (IntKind.wrap IntKind.i64 (0 + IntKind.wrap IntKind.i64 (↑(UInt8.toNat c) : Int)))))))
theorem F_math_bits_Len64 (x : Int) (h : Heap) (K : Value → Heap → Prop) (k : F_math_bits_Len64T x h K) : CallA Try.prog fn_math_bits_Len64 [int IntKind.u64 x] h K :=
 CallA.of_ev (cs := []) Try.func146 (by kernel_rfl) (fun _ _ => Try.call146 _ _) mixed (by kernel_rfl) (by kernel_rfl) k
end Go.Proofs.Ytghdadniddoboaa
