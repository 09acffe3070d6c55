import Derived.Test.YtjihfieahkbohaaProg
import Derived.Test.YtjihfieahkbohaaM01
namespace Go.Proofs.Ytjihfieahkbohaa
open Go Go.Sy Go.Value
set_option linter.unusedVariables false
set_option maxRecDepth 100000
theorem mixed : Try.prog.follows .mixedOrders = true := by kernel_rfl
abbrev LdR11 (h : Heap) (b o : Nat) (J : Int → Int → Int → Int → Int → Int → Int → Int → Bool → Bool → Int → Prop) : Prop :=
 ∃ (n0 : Int), h.cell b o = some (.int .i64 n0) ∧
 ∃ (n1 : Int), h.cell b (o + 1) = some (.int .i64 n1) ∧
 ∃ (n2 : Int), h.cell b (o + 2) = some (.int .i64 n2) ∧
 ∃ (n3 : Int), h.cell b (o + 3) = some (.int .i64 n3) ∧
 ∃ (n4 : Int), h.cell b (o + 4) = some (.int .i64 n4) ∧
 ∃ (n5 : Int), h.cell b (o + 5) = some (.int .i64 n5) ∧
 ∃ (n6 : Int), h.cell b (o + 6) = some (.int .i64 n6) ∧
 ∃ (n7 : Int), h.cell b (o + 7) = some (.int .i64 n7) ∧
 ∃ (n8 : Bool), h.cell b (o + 8) = some (.bool n8) ∧
 ∃ (n9 : Bool), h.cell b (o + 9) = some (.bool n9) ∧
 ∃ (n10 : Int), h.cell b (o + 10) = some (.int .i64 n10) ∧
 J n0 n1 n2 n3 n4 n5 n6 n7 n8 n9 n10
abbrev LdJ10 (h : Heap) (b o : Nat) (J : Int → Int → Int → Int → Int → Int → Int → Int → Int → Int → Prop) : Prop :=
 ∃ (n0 : Int), h.cell b o = some (.int .i64 n0) ∧
 ∃ (n1 : Int), h.cell b (o + 1) = some (.int .i64 n1) ∧
 ∃ (n2 : Int), h.cell b (o + 2) = some (.int .i64 n2) ∧
 ∃ (n3 : Int), h.cell b (o + 3) = some (.int .i64 n3) ∧
 ∃ (n4 : Int), h.cell b (o + 4) = some (.int .i64 n4) ∧
 ∃ (n5 : Int), h.cell b (o + 5) = some (.int .i64 n5) ∧
 ∃ (n6 : Int), h.cell b (o + 6) = some (.int .i64 n6) ∧
 ∃ (n7 : Int), h.cell b (o + 7) = some (.int .i64 n7) ∧
 ∃ (n8 : Int), h.cell b (o + 8) = some (.int .i64 n8) ∧
 ∃ (n9 : Int), h.cell b (o + 9) = some (.int .i64 n9) ∧
 J n0 n1 n2 n3 n4 n5 n6 n7 n8 n9
abbrev LdJ7 (h : Heap) (b o : Nat) (J : Int → Int → Int → Int → Int → Int → Int → Prop) : Prop :=
 ∃ (n0 : Int), h.cell b o = some (.int .i64 n0) ∧
 ∃ (n1 : Int), h.cell b (o + 1) = some (.int .i64 n1) ∧
 ∃ (n2 : Int), h.cell b (o + 2) = some (.int .i64 n2) ∧
 ∃ (n3 : Int), h.cell b (o + 3) = some (.int .i64 n3) ∧
 ∃ (n4 : Int), h.cell b (o + 4) = some (.int .i64 n4) ∧
 ∃ (n5 : Int), h.cell b (o + 5) = some (.int .i64 n5) ∧
 ∃ (n6 : Int), h.cell b (o + 6) = some (.int .i64 n6) ∧
 J n0 n1 n2 n3 n4 n5 n6
abbrev fn_gosem_cut_init : Nat := 2
abbrev fn_law11_DealDoes : Nat := 3
abbrev fn_law11_DealReads : Nat := 4
abbrev fn_law11_DealTwo : Nat := 5
abbrev fn_law11_DealStays : Nat := 6
abbrev fn_law13_PlanWhole : Nat := 7
abbrev fn_law11_awake : Nat := 8
abbrev fn_deal_New : Nat := 9
abbrev fn_ref11_New : Nat := 10
abbrev fn_law11_do : Nat := 11
abbrev fn_pdeal_Book_Text : Nat := 12
abbrev fn_pref11_Book_Text : Nat := 13
abbrev fn_ref11_Same : Nat := 14
abbrev fn_pdeal_Book_All : Nat := 15
abbrev fn_pref11_Book_All : Nat := 16
abbrev fn_deal_Read : Nat := 17
abbrev fn_ref11_Read : Nat := 18
abbrev fn_pdeal_Book_Submit : Nat := 19
abbrev fn_pdeal_Book_State : Nat := 20
abbrev fn_pdeal_Book_Rescind : Nat := 21
abbrev fn_pdeal_Book_Settle : Nat := 22
abbrev fn_pdeal_Book_Deal : Nat := 23
abbrev fn_pdeal_Book_Remove : Nat := 24
abbrev fn_law13_awake : Nat := 25
abbrev fn_law13_large : Nat := 26
abbrev fn_plan_Schedule : Nat := 27
abbrev fn_money_Sum : Nat := 28
abbrev fn_plan_Behind : Nat := 29
abbrev fn_pref11_Book_Submit : Nat := 30
abbrev fn_pref11_Book_Rescind : Nat := 31
abbrev fn_pref11_Book_Settle : Nat := 32
abbrev fn_pref11_Book_Remove : Nat := 33
abbrev fn_pref11_Book_At : Nat := 34
abbrev fn_deal_lay : Nat := 35
abbrev fn_deal_entry_numbers : Nat := 36
abbrev fn_deal_widths : Nat := 37
abbrev fn_ref11_lay : Nat := 38
abbrev fn_ref11_asked : Nat := 39
abbrev fn_slices_SortFunc_deal_entry_deal_entry : Nat := 40
abbrev fn_pdeal_Book_All_1 : Nat := 41
abbrev fn_cmp_Compare_int : Nat := 42
abbrev fn_deal_take : Nat := 43
abbrev fn_pdeal_Book_may : Nat := 44
abbrev fn_deal_entry_could : Nat := 45
abbrev fn_pdeal_Book_find : Nat := 46
abbrev fn_slices_Sort_int_int : Nat := 47
abbrev fn_ref11_number : Nat := 48
abbrev fn_pref11_Book_May : Nat := 49
abbrev fn_ref11_could : Nat := 50
abbrev fn_deal_mirror : Nat := 51
abbrev fn_pdeal_entry_who : Nat := 52
abbrev fn_plan_Net : Nat := 53
abbrev fn_ref02_Same : Nat := 54
abbrev fn_ref13_Same : Nat := 55
abbrev fn_law13_own : Nat := 56
abbrev fn_plan_Schedule_1 : Nat := 57
abbrev fn_plan_Schedule_2 : Nat := 58
abbrev fn_slices_Contains_int64_int64 : Nat := 59
abbrev fn_plan_risen : Nat := 60
abbrev fn_slices_ContainsFunc_sint64_sint64 : Nat := 61
abbrev fn_split_Even : Nat := 62
abbrev fn_slices_Concat_plan_Due_plan_Due : Nat := 63
abbrev fn_plan_Behind_1 : Nat := 64
abbrev fn_slices_ContainsFunc_plan_Due_plan_Due : Nat := 65
abbrev fn_slices_SortStableFunc_plan_Due_plan_Due : Nat := 66
abbrev fn_plan_Due_order : Nat := 67
abbrev fn_money_Add : Nat := 68
abbrev fn_pref11_Book_set : Nat := 69
abbrev fn_slices_pdqsortCmpFunc_deal_entry : Nat := 70
abbrev fn_math_bits_Len : Nat := 71
abbrev fn_cmp_isNaN_int : Nat := 72
abbrev fn_deal_two : Nat := 73
abbrev fn_slices_pdqsortOrdered_int : Nat := 74
abbrev fn_slices_Index_int64_int64 : Nat := 75
abbrev fn_slices_IndexFunc_sint64_sint64 : Nat := 76
abbrev fn_split_Shares : Nat := 77
abbrev fn_slices_Repeat_int64_int64 : Nat := 78
abbrev fn_slices_Grow_plan_Due_plan_Due : Nat := 79
abbrev fn_slices_IndexFunc_plan_Due_plan_Due : Nat := 80
abbrev fn_slices_stableCmpFunc_plan_Due : Nat := 81
abbrev fn_cmp_Or_int : Nat := 82
abbrev fn_slices_insertionSortCmpFunc_deal_entry : Nat := 83
abbrev fn_slices_heapSortCmpFunc_deal_entry : Nat := 84
abbrev fn_slices_breakPatternsCmpFunc_deal_entry : Nat := 85
abbrev fn_slices_choosePivotCmpFunc_deal_entry : Nat := 86
abbrev fn_slices_reverseRangeCmpFunc_deal_entry : Nat := 87
abbrev fn_slices_partialInsertionSortCmpFunc_deal_entry : Nat := 88
abbrev fn_slices_partitionEqualCmpFunc_deal_entry : Nat := 89
abbrev fn_slices_partitionCmpFunc_deal_entry : Nat := 90
abbrev fn_math_bits_Len32 : Nat := 91
abbrev fn_math_bits_Len64 : Nat := 92
abbrev fn_slices_insertionSortOrdered_int : Nat := 93
abbrev fn_slices_heapSortOrdered_int : Nat := 94
abbrev fn_slices_breakPatternsOrdered_int : Nat := 95
abbrev fn_slices_choosePivotOrdered_int : Nat := 96
abbrev fn_slices_reverseRangeOrdered_int : Nat := 97
abbrev fn_slices_partialInsertionSortOrdered_int : Nat := 98
abbrev fn_cmp_Less_int : Nat := 99
abbrev fn_slices_partitionEqualOrdered_int : Nat := 100
abbrev fn_slices_partitionOrdered_int : Nat := 101
abbrev fn_slices_ContainsFunc_int64_int64 : Nat := 102
abbrev fn_split_below : Nat := 103
abbrev fn_split_Shares_1 : Nat := 104
abbrev fn_money_MulDiv : Nat := 105
abbrev fn_split_rest : Nat := 106
abbrev fn_slices_SortFunc_int_int : Nat := 107
abbrev fn_split_by_order : Nat := 108
abbrev fn_math_bits_Mul : Nat := 109
abbrev fn_slices_insertionSortCmpFunc_plan_Due : Nat := 110
abbrev fn_slices_symMergeCmpFunc_plan_Due : Nat := 111
abbrev fn_slices_siftDownCmpFunc_deal_entry : Nat := 112
abbrev fn_slices_nextPowerOfTwo : Nat := 113
abbrev fn_pslices_xorshift_Next : Nat := 114
abbrev fn_slices_medianAdjacentCmpFunc_deal_entry : Nat := 115
abbrev fn_slices_medianCmpFunc_deal_entry : Nat := 116
abbrev fn_slices_siftDownOrdered_int : Nat := 117
abbrev fn_slices_medianAdjacentOrdered_int : Nat := 118
abbrev fn_slices_medianOrdered_int : Nat := 119
abbrev fn_slices_IndexFunc_int64_int64 : Nat := 120
abbrev fn_money_product : Nat := 121
abbrev fn_money_size : Nat := 122
abbrev fn_money_quotient : Nat := 123
abbrev fn_money_signed : Nat := 124
abbrev fn_slices_pdqsortCmpFunc_int : Nat := 125
abbrev fn_cmp_Compare_int64 : Nat := 126
abbrev fn_math_bits_Mul32 : Nat := 127
abbrev fn_math_bits_Mul64 : Nat := 128
abbrev fn_slices_rotateCmpFunc_plan_Due : Nat := 129
abbrev fn_slices_order2CmpFunc_deal_entry : Nat := 130
abbrev fn_slices_order2Ordered_int : Nat := 131
abbrev fn_slices_insertionSortCmpFunc_int : Nat := 132
abbrev fn_slices_heapSortCmpFunc_int : Nat := 133
abbrev fn_slices_breakPatternsCmpFunc_int : Nat := 134
abbrev fn_slices_choosePivotCmpFunc_int : Nat := 135
abbrev fn_slices_reverseRangeCmpFunc_int : Nat := 136
abbrev fn_slices_partialInsertionSortCmpFunc_int : Nat := 137
abbrev fn_slices_partitionEqualCmpFunc_int : Nat := 138
abbrev fn_slices_partitionCmpFunc_int : Nat := 139
abbrev fn_cmp_isNaN_int64 : Nat := 140
abbrev fn_slices_swapRangeCmpFunc_plan_Due : Nat := 141
abbrev fn_slices_siftDownCmpFunc_int : Nat := 142
abbrev fn_slices_medianAdjacentCmpFunc_int : Nat := 143
abbrev fn_slices_medianCmpFunc_int : Nat := 144
abbrev fn_slices_order2CmpFunc_int : Nat := 145
end Go.Proofs.Ytjihfieahkbohaa

namespace Go.Proofs.Ytjihfieahkbohaa
open Go Go.Sy Go.Value
set_option linter.unusedVariables false
set_option maxRecDepth 100000
def F_money_AddT (a : Int) (b : Int) (h : Heap) (K : Value → Heap → Prop) : Prop :=
 Br (decide (a < 0) == decide (b < 0))
 (Br (!decide (IntKind.wrap IntKind.i64 (a + b) < 0) == decide (a < 0)) (Ret h K (tuple #[int IntKind.i64 0, int IntKind.i64 3]))
 (Ret h K (tuple #[int IntKind.i64 (IntKind.wrap IntKind.i64 (a + b)), int IntKind.i64 0])))
 (Ret h K (tuple #[int IntKind.i64 (IntKind.wrap IntKind.i64 (a + b)), int IntKind.i64 0]))
theorem F_money_Add (a : Int) (b : Int) (h : Heap) (K : Value → Heap → Prop) (k : F_money_AddT a b h K) : CallA Try.prog fn_money_Add [int IntKind.i64 a, int IntKind.i64 b] h K :=
 CallA.of_ev (cs := []) Try.func68 (by kernel_rfl) (fun _ _ => Try.call68 _ _) mixed (by kernel_rfl) (by kernel_rfl) k
def F_money_MulDivT (a : Int) (b : Int) (c : Int) (up : Bool) (h : Heap) (K : Value → Heap → Prop) : Prop :=
 Br (decide (c < 1)) (Ret h K (tuple #[int IntKind.i64 0, int IntKind.i64 1]))
 (CallA Try.prog fn_money_size [int IntKind.i64 a] h fun (v : Value) (h : Heap) =>
 ∃ (n : Int),
 v = int IntKind.u64 n ∧
 CallA Try.prog fn_money_size [int IntKind.i64 b] h fun (v : Value) (h : Heap) =>
 ∃ (n_1 : Int),
 v = int IntKind.u64 n_1 ∧
 CallA Try.prog fn_money_product [int IntKind.u64 n, int IntKind.u64 n_1] h fun (v : Value) (h : Heap) =>
 ∃ (n : Int),
 ∃ (n_2 : Int),
 v = tuple #[int IntKind.u64 n, int IntKind.u64 n_2] ∧
 CallA Try.prog fn_money_quotient [int IntKind.u64 n, int IntKind.u64 n_2, int IntKind.u64 (IntKind.wrap IntKind.u64 c)] h fun (v : Value) (h : Heap) =>
 ∃ (n : Int),
 ∃ (b_1 : Bool),
 ∃ (b_2 : Bool),
 v = tuple #[int IntKind.u64 n, Value.bool b_1, Value.bool b_2] ∧
 Br (!b_2) (Ret h K (tuple #[int IntKind.i64 0, int IntKind.i64 3]))
 (Br b_1
 (Br (!(!decide (a < 0) == decide (b < 0)) == up)
 (Br (IntKind.wrap IntKind.u64 (n + 1) == 0) (Ret h K (tuple #[int IntKind.i64 0, int IntKind.i64 3]))
 (CallA Try.prog fn_money_signed [int IntKind.u64 (IntKind.wrap IntKind.u64 (n + 1)), Value.bool !decide (a < 0) == decide (b < 0)] h fun (v : Value) (h : Heap) =>
 ∃ (n : Int), ∃ (n_3 : Int), v = tuple #[int IntKind.i64 n, int IntKind.i64 n_3] ∧ Ret h K (tuple #[int IntKind.i64 n, int IntKind.i64 n_3])))
 (CallA Try.prog fn_money_signed [int IntKind.u64 n, Value.bool !decide (a < 0) == decide (b < 0)] h fun (v : Value) (h : Heap) =>
 ∃ (n : Int), ∃ (n_3 : Int), v = tuple #[int IntKind.i64 n, int IntKind.i64 n_3] ∧ Ret h K (tuple #[int IntKind.i64 n, int IntKind.i64 n_3])))
 (CallA Try.prog fn_money_signed [int IntKind.u64 n, Value.bool !decide (a < 0) == decide (b < 0)] h fun (v : Value) (h : Heap) =>
 ∃ (n : Int), ∃ (n_3 : Int), v = tuple #[int IntKind.i64 n, int IntKind.i64 n_3] ∧ Ret h K (tuple #[int IntKind.i64 n, int IntKind.i64 n_3]))))
theorem F_money_MulDiv (a : Int) (b : Int) (c : Int) (up : Bool) (h : Heap) (K : Value → Heap → Prop) (k : F_money_MulDivT a b c up h K) : CallA Try.prog fn_money_MulDiv [int IntKind.i64 a, int IntKind.i64 b, int IntKind.i64 c, Value.bool up] h K :=
 CallA.of_ev (cs := []) Try.func105 (by kernel_rfl) (fun _ _ => Try.call105 _ _) mixed (by kernel_rfl) (by kernel_rfl) k
def L_money_Sum_0 (high : Int) (lower : Int) (t9 : Option Addr) (t9n : Nat) (t9c : Nat) (t10 : Int) (t11 : Int) (h : Heap) (K : Value → Heap → Prop) : Prop :=
 LoopAt Try.prog Try.f28 28 (loopK Try.f28 0) (sp 37 [(4, int IntKind.i64 high), (5, int IntKind.u64 lower), (9, slice t9 t9n t9c), (10, int IntKind.i64 t10), (11, int IntKind.i64 t11)]) h K
def L_money_Sum_0T (high : Int) (lower : Int) (t9 : Option Addr) (t9n : Nat) (t9c : Nat) (t10 : Int) (t11 : Int) (h : Heap) (K : Value → Heap → Prop) : Prop :=
 Br (decide (t11 < t10))
 (0 ≤ t11 ∧
 t11 < (↑t9n : Int) ∧
 withAddr t9 fun (b o : Nat) =>
 ∃ (n : Int),
 Heap.cell h b (o + Int.toNat t11) = some (int IntKind.i64 n) ∧
 Br (decide (IntKind.wrap IntKind.u64 (lower + IntKind.wrap IntKind.u64 n) < lower))
 (L_money_Sum_0 (IntKind.wrap IntKind.i64 (IntKind.wrap IntKind.i64 (high + 1) + Int.fdiv n 9223372036854775808)) (IntKind.wrap IntKind.u64 (lower + IntKind.wrap IntKind.u64 n)) t9 t9n t9c t10
 (IntKind.wrap IntKind.i64 (t11 + 1)) h K)
 (L_money_Sum_0 (IntKind.wrap IntKind.i64 (high + Int.fdiv n 9223372036854775808)) (IntKind.wrap IntKind.u64 (lower + IntKind.wrap IntKind.u64 n)) t9 t9n t9c t10 (IntKind.wrap IntKind.i64 (t11 + 1)) h K))
 (Br (high != Int.fdiv (IntKind.wrap IntKind.i64 lower) 9223372036854775808) (Ret h K (tuple #[int IntKind.i64 0, int IntKind.i64 3]))
 (Ret h K (tuple #[int IntKind.i64 (IntKind.wrap IntKind.i64 lower), int IntKind.i64 0])))
theorem L_money_Sum_0r (high : Int) (lower : Int) (t9 : Option Addr) (t9n : Nat) (t9c : Nat) (t10 : Int) (t11 : Int) (h : Heap) (K : Value → Heap → Prop) (k : L_money_Sum_0T high lower t9 t9n t9c t10 t11 h K) : L_money_Sum_0 high lower t9 t9n t9c t10 t11 h K :=
 LoopAt.of_ev (cs := []) Try.func28 mixed (fun junk => by kernel_rfl) k
def F_money_SumT (l : Option Addr) (ln : Nat) (lc : Nat) (h : Heap) (K : Value → Heap → Prop) : Prop :=
 L_money_Sum_0 0 0 l ln lc (↑ln : Int) 0 h K
theorem F_money_Sum (l : Option Addr) (ln : Nat) (lc : Nat) (h : Heap) (K : Value → Heap → Prop) (k : F_money_SumT l ln lc h K) : CallA Try.prog fn_money_Sum [slice l ln lc] h K :=
 CallA.of_ev (cs := []) Try.func28 (by kernel_rfl) (fun _ _ => Try.call28 _ _) mixed (by kernel_rfl) (by kernel_rfl) k
def F_money_signedT (n : Int) (neg : Bool) (h : Heap) (K : Value → Heap → Prop) : Prop :=
 Br neg
 (Br (decide (n ≤ 9223372036854775808)) (Ret h K (tuple #[int IntKind.i64 (IntKind.wrap IntKind.i64 (0 - IntKind.wrap IntKind.i64 n)), int IntKind.i64 0]))
 (Br (!neg) (Br (decide (n < 9223372036854775808)) (Ret h K (tuple #[int IntKind.i64 (IntKind.wrap IntKind.i64 n), int IntKind.i64 0])) (Ret h K (tuple #[int IntKind.i64 0, int IntKind.i64 3])))
 (Ret h K (tuple #[int IntKind.i64 0, int IntKind.i64 3]))))
 (Br (!neg) (Br (decide (n < 9223372036854775808)) (Ret h K (tuple #[int IntKind.i64 (IntKind.wrap IntKind.i64 n), int IntKind.i64 0])) (Ret h K (tuple #[int IntKind.i64 0, int IntKind.i64 3])))
 (Ret h K (tuple #[int IntKind.i64 0, int IntKind.i64 3])))
theorem F_money_signed (n : Int) (neg : Bool) (h : Heap) (K : Value → Heap → Prop) (k : F_money_signedT n neg h K) : CallA Try.prog fn_money_signed [int IntKind.u64 n, Value.bool neg] h K :=
 CallA.of_ev (cs := []) Try.func124 (by kernel_rfl) (fun _ _ => Try.call124 _ _) mixed (by kernel_rfl) (by kernel_rfl) k
def F_money_sizeT (a : Int) (h : Heap) (K : Value → Heap → Prop) : Prop :=
 Br (decide (a < 0)) (Ret h K (int IntKind.u64 (IntKind.wrap IntKind.u64 (0 - IntKind.wrap IntKind.u64 a)))) (Ret h K (int IntKind.u64 (IntKind.wrap IntKind.u64 a)))
theorem F_money_size (a : Int) (h : Heap) (K : Value → Heap → Prop) (k : F_money_sizeT a h K) : CallA Try.prog fn_money_size [int IntKind.i64 a] h K :=
 CallA.of_ev (cs := []) Try.func122 (by kernel_rfl) (fun _ _ => Try.call122 _ _) mixed (by kernel_rfl) (by kernel_rfl) k
def F_money_productT (a : Int) (b : Int) (h : Heap) (K : Value → Heap → Prop) : Prop :=
 newB h [int IntKind.u64 0, int IntKind.u64 0, int IntKind.u64 0, int IntKind.u64 0] 188 fun (r : Nat) (h : Heap) =>
 Heap.canSt h r 0 4 ∧
 ∃ (n : Int),
 Heap.cell
 (Heap.setN h r 0
 [int IntKind.u64
 (IntKind.wrap IntKind.u64
 (IntKind.wrap IntKind.u64 (↑(BitVec.toNat (BitVec.ofInt 64 a &&& BitVec.ofInt 64 4294967295)) : Int) *
 IntKind.wrap IntKind.u64 (↑(BitVec.toNat (BitVec.ofInt 64 b &&& BitVec.ofInt 64 4294967295)) : Int))),
 int IntKind.u64 (IntKind.wrap IntKind.u64 (IntKind.wrap IntKind.u64 (↑(BitVec.toNat (BitVec.ofInt 64 a &&& BitVec.ofInt 64 4294967295)) : Int) * Int.fdiv b 4294967296)),
 int IntKind.u64 (IntKind.wrap IntKind.u64 (Int.fdiv a 4294967296 * IntKind.wrap IntKind.u64 (↑(BitVec.toNat (BitVec.ofInt 64 b &&& BitVec.ofInt 64 4294967295)) : Int))),
 int IntKind.u64 (IntKind.wrap IntKind.u64 (Int.fdiv a 4294967296 * Int.fdiv b 4294967296))])
 r 0 =
 some (int IntKind.u64 n) ∧
 ∃ (n_1 : Int),
 Heap.cell
 (Heap.setN h r 0
 [int IntKind.u64
 (IntKind.wrap IntKind.u64
 (IntKind.wrap IntKind.u64 (↑(BitVec.toNat (BitVec.ofInt 64 a &&& BitVec.ofInt 64 4294967295)) : Int) *
 IntKind.wrap IntKind.u64 (↑(BitVec.toNat (BitVec.ofInt 64 b &&& BitVec.ofInt 64 4294967295)) : Int))),
 int IntKind.u64 (IntKind.wrap IntKind.u64 (IntKind.wrap IntKind.u64 (↑(BitVec.toNat (BitVec.ofInt 64 a &&& BitVec.ofInt 64 4294967295)) : Int) * Int.fdiv b 4294967296)),
 int IntKind.u64 (IntKind.wrap IntKind.u64 (Int.fdiv a 4294967296 * IntKind.wrap IntKind.u64 (↑(BitVec.toNat (BitVec.ofInt 64 b &&& BitVec.ofInt 64 4294967295)) : Int))),
 int IntKind.u64 (IntKind.wrap IntKind.u64 (Int.fdiv a 4294967296 * Int.fdiv b 4294967296))])
 r 1 =
 some (int IntKind.u64 n_1) ∧
 ∃ (n_2 : Int),
 Heap.cell
 (Heap.setN h r 0
 [int IntKind.u64
 (IntKind.wrap IntKind.u64
 (IntKind.wrap IntKind.u64 (↑(BitVec.toNat (BitVec.ofInt 64 a &&& BitVec.ofInt 64 4294967295)) : Int) *
 IntKind.wrap IntKind.u64 (↑(BitVec.toNat (BitVec.ofInt 64 b &&& BitVec.ofInt 64 4294967295)) : Int))),
 int IntKind.u64 (IntKind.wrap IntKind.u64 (IntKind.wrap IntKind.u64 (↑(BitVec.toNat (BitVec.ofInt 64 a &&& BitVec.ofInt 64 4294967295)) : Int) * Int.fdiv b 4294967296)),
 int IntKind.u64 (IntKind.wrap IntKind.u64 (Int.fdiv a 4294967296 * IntKind.wrap IntKind.u64 (↑(BitVec.toNat (BitVec.ofInt 64 b &&& BitVec.ofInt 64 4294967295)) : Int))),
 int IntKind.u64 (IntKind.wrap IntKind.u64 (Int.fdiv a 4294967296 * Int.fdiv b 4294967296))])
 r 2 =
 some (int IntKind.u64 n_2) ∧
 ∃ (n_3 : Int),
 Heap.cell
 (Heap.setN h r 0
 [int IntKind.u64
 (IntKind.wrap IntKind.u64
 (IntKind.wrap IntKind.u64 (↑(BitVec.toNat (BitVec.ofInt 64 a &&& BitVec.ofInt 64 4294967295)) : Int) *
 IntKind.wrap IntKind.u64 (↑(BitVec.toNat (BitVec.ofInt 64 b &&& BitVec.ofInt 64 4294967295)) : Int))),
 int IntKind.u64 (IntKind.wrap IntKind.u64 (IntKind.wrap IntKind.u64 (↑(BitVec.toNat (BitVec.ofInt 64 a &&& BitVec.ofInt 64 4294967295)) : Int) * Int.fdiv b 4294967296)),
 int IntKind.u64 (IntKind.wrap IntKind.u64 (Int.fdiv a 4294967296 * IntKind.wrap IntKind.u64 (↑(BitVec.toNat (BitVec.ofInt 64 b &&& BitVec.ofInt 64 4294967295)) : Int))),
 int IntKind.u64 (IntKind.wrap IntKind.u64 (Int.fdiv a 4294967296 * Int.fdiv b 4294967296))])
 r 0 =
 some (int IntKind.u64 n_3) ∧
 ∃ (n_4 : Int),
 Heap.cell
 (Heap.setN h r 0
 [int IntKind.u64
 (IntKind.wrap IntKind.u64
 (IntKind.wrap IntKind.u64 (↑(BitVec.toNat (BitVec.ofInt 64 a &&& BitVec.ofInt 64 4294967295)) : Int) *
 IntKind.wrap IntKind.u64 (↑(BitVec.toNat (BitVec.ofInt 64 b &&& BitVec.ofInt 64 4294967295)) : Int))),
 int IntKind.u64 (IntKind.wrap IntKind.u64 (IntKind.wrap IntKind.u64 (↑(BitVec.toNat (BitVec.ofInt 64 a &&& BitVec.ofInt 64 4294967295)) : Int) * Int.fdiv b 4294967296)),
 int IntKind.u64 (IntKind.wrap IntKind.u64 (Int.fdiv a 4294967296 * IntKind.wrap IntKind.u64 (↑(BitVec.toNat (BitVec.ofInt 64 b &&& BitVec.ofInt 64 4294967295)) : Int))),
 int IntKind.u64 (IntKind.wrap IntKind.u64 (Int.fdiv a 4294967296 * Int.fdiv b 4294967296))])
 r 3 =
 some (int IntKind.u64 n_4) ∧
 ∃ (n_5 : Int),
 Heap.cell
 (Heap.setN h r 0
 [int IntKind.u64
 (IntKind.wrap IntKind.u64
 (IntKind.wrap IntKind.u64 (↑(BitVec.toNat (BitVec.ofInt 64 a &&& BitVec.ofInt 64 4294967295)) : Int) *
 IntKind.wrap IntKind.u64 (↑(BitVec.toNat (BitVec.ofInt 64 b &&& BitVec.ofInt 64 4294967295)) : Int))),
 int IntKind.u64 (IntKind.wrap IntKind.u64 (IntKind.wrap IntKind.u64 (↑(BitVec.toNat (BitVec.ofInt 64 a &&& BitVec.ofInt 64 4294967295)) : Int) * Int.fdiv b 4294967296)),
 int IntKind.u64 (IntKind.wrap IntKind.u64 (Int.fdiv a 4294967296 * IntKind.wrap IntKind.u64 (↑(BitVec.toNat (BitVec.ofInt 64 b &&& BitVec.ofInt 64 4294967295)) : Int))),
 int IntKind.u64 (IntKind.wrap IntKind.u64 (Int.fdiv a 4294967296 * Int.fdiv b 4294967296))])
 r 1 =
 some (int IntKind.u64 n_5) ∧
 ∃ (n_6 : Int),
 Heap.cell
 (Heap.setN h r 0
 [int IntKind.u64
 (IntKind.wrap IntKind.u64
 (IntKind.wrap IntKind.u64 (↑(BitVec.toNat (BitVec.ofInt 64 a &&& BitVec.ofInt 64 4294967295)) : Int) *
 IntKind.wrap IntKind.u64 (↑(BitVec.toNat (BitVec.ofInt 64 b &&& BitVec.ofInt 64 4294967295)) : Int))),
 int IntKind.u64 (IntKind.wrap IntKind.u64 (IntKind.wrap IntKind.u64 (↑(BitVec.toNat (BitVec.ofInt 64 a &&& BitVec.ofInt 64 4294967295)) : Int) * Int.fdiv b 4294967296)),
 int IntKind.u64 (IntKind.wrap IntKind.u64 (Int.fdiv a 4294967296 * IntKind.wrap IntKind.u64 (↑(BitVec.toNat (BitVec.ofInt 64 b &&& BitVec.ofInt 64 4294967295)) : Int))),
 int IntKind.u64 (IntKind.wrap IntKind.u64 (Int.fdiv a 4294967296 * Int.fdiv b 4294967296))])
 r 2 =
 some (int IntKind.u64 n_6) ∧
 Ret
 (Heap.setN h r 0
 [int IntKind.u64
 (IntKind.wrap IntKind.u64
 (IntKind.wrap IntKind.u64 (↑(BitVec.toNat (BitVec.ofInt 64 a &&& BitVec.ofInt 64 4294967295)) : Int) *
 IntKind.wrap IntKind.u64 (↑(BitVec.toNat (BitVec.ofInt 64 b &&& BitVec.ofInt 64 4294967295)) : Int))),
 int IntKind.u64 (IntKind.wrap IntKind.u64 (IntKind.wrap IntKind.u64 (↑(BitVec.toNat (BitVec.ofInt 64 a &&& BitVec.ofInt 64 4294967295)) : Int) * Int.fdiv b 4294967296)),
 int IntKind.u64 (IntKind.wrap IntKind.u64 (Int.fdiv a 4294967296 * IntKind.wrap IntKind.u64 (↑(BitVec.toNat (BitVec.ofInt 64 b &&& BitVec.ofInt 64 4294967295)) : Int))),
 int IntKind.u64 (IntKind.wrap IntKind.u64 (Int.fdiv a 4294967296 * Int.fdiv b 4294967296))])
 K
 (tuple
 #[int IntKind.u64
 (IntKind.wrap IntKind.u64
 (IntKind.wrap IntKind.u64 (IntKind.wrap IntKind.u64 (n_4 + Int.fdiv n_5 4294967296) + Int.fdiv n_6 4294967296) +
 Int.fdiv
 (IntKind.wrap IntKind.u64
 (IntKind.wrap IntKind.u64 (Int.fdiv n 4294967296 + IntKind.wrap IntKind.u64 (↑(BitVec.toNat (BitVec.ofInt 64 n_1 &&& BitVec.ofInt 64 4294967295)) : Int)) +
 IntKind.wrap IntKind.u64 (↑(BitVec.toNat (BitVec.ofInt 64 n_2 &&& BitVec.ofInt 64 4294967295)) : Int)))
 4294967296)),
 int IntKind.u64
 (IntKind.wrap IntKind.u64
 (↑(BitVec.toNat
 (BitVec.ofInt 64 (IntKind.wrap IntKind.u64 (↑(BitVec.toNat (BitVec.ofInt 64 n_3 &&& BitVec.ofInt 64 4294967295)) : Int)) |||
 BitVec.ofInt 64
 (IntKind.wrap IntKind.u64
 (IntKind.wrap IntKind.u64
 (IntKind.wrap IntKind.u64 (Int.fdiv n 4294967296 + IntKind.wrap IntKind.u64 (↑(BitVec.toNat (BitVec.ofInt 64 n_1 &&& BitVec.ofInt 64 4294967295)) : Int)) +
 IntKind.wrap IntKind.u64 (↑(BitVec.toNat (BitVec.ofInt 64 n_2 &&& BitVec.ofInt 64 4294967295)) : Int)) *
 4294967296)))) :
 Int))])
theorem F_money_product (a : Int) (b : Int) (h : Heap) (K : Value → Heap → Prop) (k : F_money_productT a b h K) : CallA Try.prog fn_money_product [int IntKind.u64 a, int IntKind.u64 b] h K :=
 CallA.of_ev (cs := []) Try.func121 (by kernel_rfl) (fun _ _ => Try.call121 _ _) mixed (by kernel_rfl) (by kernel_rfl) k
def L_money_quotient_0 (lower : Int) (by' : Int) (q : Int) (rest : Int) (t15 : Int) (h : Heap) (K : Value → Heap → Prop) : Prop :=
 LoopAt Try.prog Try.f123 123 (loopK Try.f123 0) (sp 43 [(1, int IntKind.u64 lower), (2, int IntKind.u64 by'), (6, int IntKind.u64 q), (9, int IntKind.u64 rest), (15, int IntKind.i64 t15)]) h K
def L_money_quotient_0T (lower : Int) (by' : Int) (q : Int) (rest : Int) (t15 : Int) (h : Heap) (K : Value → Heap → Prop) : Prop :=
 Br (decide (t15 < 64))
 (Br (decide (rest ≥ 9223372036854775808))
 (L_money_quotient_0 (IntKind.wrap IntKind.u64 (lower * 2)) by' (IntKind.wrap IntKind.u64 (↑(BitVec.toNat (BitVec.ofInt 64 (IntKind.wrap IntKind.u64 (q * 2)) ||| BitVec.ofInt 64 1)) : Int))
 (IntKind.wrap IntKind.u64 (IntKind.wrap IntKind.u64 (↑(BitVec.toNat (BitVec.ofInt 64 (IntKind.wrap IntKind.u64 (rest * 2)) ||| BitVec.ofInt 64 (Int.fdiv lower 9223372036854775808))) : Int) - by'))
 (IntKind.wrap IntKind.i64 (t15 + 1)) h K)
 (Br (decide (IntKind.wrap IntKind.u64 (↑(BitVec.toNat (BitVec.ofInt 64 (IntKind.wrap IntKind.u64 (rest * 2)) ||| BitVec.ofInt 64 (Int.fdiv lower 9223372036854775808))) : Int) ≥ by'))
 (L_money_quotient_0 (IntKind.wrap IntKind.u64 (lower * 2)) by' (IntKind.wrap IntKind.u64 (↑(BitVec.toNat (BitVec.ofInt 64 (IntKind.wrap IntKind.u64 (q * 2)) ||| BitVec.ofInt 64 1)) : Int))
 (IntKind.wrap IntKind.u64 (IntKind.wrap IntKind.u64 (↑(BitVec.toNat (BitVec.ofInt 64 (IntKind.wrap IntKind.u64 (rest * 2)) ||| BitVec.ofInt 64 (Int.fdiv lower 9223372036854775808))) : Int) - by'))
 (IntKind.wrap IntKind.i64 (t15 + 1)) h K)
 (L_money_quotient_0 (IntKind.wrap IntKind.u64 (lower * 2)) by' (IntKind.wrap IntKind.u64 (q * 2))
 (IntKind.wrap IntKind.u64 (↑(BitVec.toNat (BitVec.ofInt 64 (IntKind.wrap IntKind.u64 (rest * 2)) ||| BitVec.ofInt 64 (Int.fdiv lower 9223372036854775808))) : Int)) (IntKind.wrap IntKind.i64 (t15 + 1)) h K)))
 (Ret h K (tuple #[int IntKind.u64 q, Value.bool (rest != 0), Value.bool true]))
theorem L_money_quotient_0r (lower : Int) (by' : Int) (q : Int) (rest : Int) (t15 : Int) (h : Heap) (K : Value → Heap → Prop) (k : L_money_quotient_0T lower by' q rest t15 h K) : L_money_quotient_0 lower by' q rest t15 h K :=
 LoopAt.of_ev (cs := []) Try.func123 mixed (fun junk => by kernel_rfl) k
def F_money_quotientT (high : Int) (lower : Int) (by' : Int) (h : Heap) (K : Value → Heap → Prop) : Prop :=
 Br (decide (high ≥ by')) (Ret h K (tuple #[int IntKind.u64 0, Value.bool false, Value.bool false])) (L_money_quotient_0 lower by' 0 high 0 h K)
theorem F_money_quotient (high : Int) (lower : Int) (by' : Int) (h : Heap) (K : Value → Heap → Prop) (k : F_money_quotientT high lower by' h K) : CallA Try.prog fn_money_quotient [int IntKind.u64 high, int IntKind.u64 lower, int IntKind.u64 by'] h K :=
 CallA.of_ev (cs := []) Try.func123 (by kernel_rfl) (fun _ _ => Try.call123 _ _) mixed (by kernel_rfl) (by kernel_rfl) k
end Go.Proofs.Ytjihfieahkbohaa

namespace Go.Proofs.Ytjihfieahkbohaa
open Go Go.Sy Go.Value
set_option linter.unusedVariables false
set_option maxRecDepth 100000
def F_deal_twoT (a : Int) (b : Int) (most : Int) (h : Heap) (K : Value → Heap → Prop) : Prop :=
 Br (decide (a ≥ 0)) (Br (decide (b ≥ 0)) (Br (decide (a < most)) (Br (decide (b < most)) (Ret h K (Value.bool (a != b))) (Ret h K (Value.bool false))) (Ret h K (Value.bool false))) (Ret h K (Value.bool false)))
 (Ret h K (Value.bool false))
theorem F_deal_two (a : Int) (b : Int) (most : Int) (h : Heap) (K : Value → Heap → Prop) (k : F_deal_twoT a b most h K) : CallA Try.prog fn_deal_two [int IntKind.i64 a, int IntKind.i64 b, int IntKind.i64 most] h K :=
 CallA.of_ev (cs := []) Try.func73 (by kernel_rfl) (fun _ _ => Try.call73 _ _) mixed (by kernel_rfl) (by kernel_rfl) k
def F_pdeal_Book_mayT (b : Option Addr) (d_0 : Int) (d_1 : Int) (d_2 : Int) (d_3 : Int) (d_4 : Int) (d_5 : Int) (d_6 : Int) (h : Heap) (K : Value → Heap → Prop) : Prop :=
 newB h [int IntKind.i64 d_0, int IntKind.i64 d_1, int IntKind.i64 d_2, int IntKind.i64 d_3, int IntKind.i64 d_4, int IntKind.i64 d_5, int IntKind.i64 d_6] 33 fun (r : Nat) (h : Heap) =>
 ∃ (n : Int),
 Heap.cell h r 0 = some (int IntKind.i64 n) ∧
 Br (decide (n ≥ 1))
 (∃ (n : Int),
 Heap.cell h r 0 = some (int IntKind.i64 n) ∧
 Br (decide (n ≤ 2147483647))
 (∃ (n : Int),
 Heap.cell h r 1 = some (int IntKind.i64 n) ∧
 ∃ (n_1 : Int),
 Heap.cell h r 2 = some (int IntKind.i64 n_1) ∧
 withAddr b fun (b_1 o : Nat) =>
 ∃ (n_2 : Int),
 Heap.cell h b_1 o = some (int IntKind.i64 n_2) ∧
 CallA Try.prog fn_deal_two [int IntKind.i64 n, int IntKind.i64 n_1, int IntKind.i64 n_2] h fun (v : Value) (h : Heap) =>
 ∃ (b_2 : Bool),
 v = Value.bool b_2 ∧
 Br b_2
 (∃ (n : Int),
 Heap.cell h r 3 = some (int IntKind.i64 n) ∧
 ∃ (n_3 : Int),
 Heap.cell h r 4 = some (int IntKind.i64 n_3) ∧
 withAddr b fun (b o : Nat) =>
 ∃ (n_4 : Int),
 Heap.cell h b (o + 1) = some (int IntKind.i64 n_4) ∧
 CallA Try.prog fn_deal_two [int IntKind.i64 n, int IntKind.i64 n_3, int IntKind.i64 n_4] h fun (v : Value) (h : Heap) =>
 ∃ (b : Bool),
 v = Value.bool b ∧
 Br b
 (∃ (n : Int),
 Heap.cell h r 5 = some (int IntKind.i64 n) ∧
 Br (decide (n ≥ 1)) (∃ (n : Int), Heap.cell h r 6 = some (int IntKind.i64 n) ∧ Ret h K (Value.bool (decide (n ≥ 1)))) (Ret h K (Value.bool false)))
 (Ret h K (Value.bool false)))
 (Ret h K (Value.bool false)))
 (Ret h K (Value.bool false)))
 (Ret h K (Value.bool false))
theorem F_pdeal_Book_may (b : Option Addr) (d_0 : Int) (d_1 : Int) (d_2 : Int) (d_3 : Int) (d_4 : Int) (d_5 : Int) (d_6 : Int) (h : Heap) (K : Value → Heap → Prop) (k : F_pdeal_Book_mayT b d_0 d_1 d_2 d_3 d_4 d_5 d_6 h K) : CallA Try.prog fn_pdeal_Book_may [pointer b, agg #[int IntKind.i64 d_0, int IntKind.i64 d_1, int IntKind.i64 d_2, int IntKind.i64 d_3, int IntKind.i64 d_4, int IntKind.i64 d_5, int IntKind.i64 d_6]] h K :=
 CallA.of_ev (cs := []) Try.func44 (by kernel_rfl) (fun _ _ => Try.call44 _ _) mixed (by kernel_rfl) (by kernel_rfl) k
def F_deal_mirrorT (d_0 : Int) (d_1 : Int) (d_2 : Int) (d_3 : Int) (d_4 : Int) (d_5 : Int) (d_6 : Int) (h : Heap) (K : Value → Heap → Prop) : Prop := newB h [int IntKind.i64 d_0, int IntKind.i64 d_1, int IntKind.i64 d_2, int IntKind.i64 d_3, int IntKind.i64 d_4, int IntKind.i64 d_5, int IntKind.i64 d_6] 33 fun (r : Nat) (h : Heap) => newB h [int IntKind.i64 0, int IntKind.i64 0, int IntKind.i64 0, int IntKind.i64 0, int IntKind.i64 0, int IntKind.i64 0, int IntKind.i64 0] 33 fun (r_1 : Nat) (h : Heap) => ∃ (n : Int), Heap.cell h r 0 = some (int IntKind.i64 n) ∧ ∃ (n_1 : Int), Heap.cell h r 2 = some (int IntKind.i64 n_1) ∧ ∃ (n_2 : Int), Heap.cell h r 1 = some (int IntKind.i64 n_2) ∧ ∃ (n_3 : Int), Heap.cell h r 4 = some (int IntKind.i64 n_3) ∧ ∃ (n_4 : Int), Heap.cell h r 3 = some (int IntKind.i64 n_4) ∧ ∃ (n_5 : Int), Heap.cell h r 6 = some (int IntKind.i64 n_5) ∧ ∃ (n_6 : Int), Heap.cell h r 5 = some (int IntKind.i64 n_6) ∧ Heap.canSt h r_1 0 7 ∧ LdJ7 (Heap.setN h r_1 0 [int IntKind.i64 n, int IntKind.i64 n_1, int IntKind.i64 n_2, int IntKind.i64 n_3, int IntKind.i64 n_4, int IntKind.i64 n_5, int IntKind.i64 n_6]) r_1 0 fun n_7 n_8 n_9 n_10 n_11 n_12 n_13 => Ret (Heap.setN h r_1 0 [int IntKind.i64 n, int IntKind.i64 n_1, int IntKind.i64 n_2, int IntKind.i64 n_3, int IntKind.i64 n_4, int IntKind.i64 n_5, int IntKind.i64 n_6]) K (agg #[int IntKind.i64 n_7, int IntKind.i64 n_8, int IntKind.i64 n_9, int IntKind.i64 n_10, int IntKind.i64 n_11, int IntKind.i64 n_12, int IntKind.i64 n_13])
theorem F_deal_mirror (d_0 : Int) (d_1 : Int) (d_2 : Int) (d_3 : Int) (d_4 : Int) (d_5 : Int) (d_6 : Int) (h : Heap) (K : Value → Heap → Prop) (k : F_deal_mirrorT d_0 d_1 d_2 d_3 d_4 d_5 d_6 h K) : CallA Try.prog fn_deal_mirror [agg #[int IntKind.i64 d_0, int IntKind.i64 d_1, int IntKind.i64 d_2, int IntKind.i64 d_3, int IntKind.i64 d_4, int IntKind.i64 d_5, int IntKind.i64 d_6]] h K :=
 CallA.of_ev (cs := []) Try.func51 (by kernel_rfl) (fun _ _ => Try.call51 _ _) mixed (by kernel_rfl) (by kernel_rfl) k
def F_pdeal_Book_findT (b : Option Addr) (id : Int) (h : Heap) (K : Value → Heap → Prop) : Prop :=
 withAddr b fun (b_1 o : Nat) =>
 ∃ (r : Option Nat),
 Heap.cell h b_1 (o + 3) = some (map r) ∧
 MGetA h r IntKind.i64 IntKind.i64 id fun (n : Int) (is : Bool) =>
 Br (!is) (Ret h K (pointer none))
 (withAddr b fun (b o : Nat) =>
 ∃ (a : Option Addr),
 ∃ (n_1 : Nat), ∃ (m : Nat), Heap.cell h b (o + 2) = some (slice a n_1 m) ∧ 0 ≤ n ∧ n < (↑n_1 : Int) ∧ withAddr a fun (b o : Nat) => Ret h K (pointer (some { block := b, off := o + Int.toNat n * 10 })))
theorem F_pdeal_Book_find (b : Option Addr) (id : Int) (h : Heap) (K : Value → Heap → Prop) (k : F_pdeal_Book_findT b id h K) : CallA Try.prog fn_pdeal_Book_find [pointer b, int IntKind.i64 id] h K :=
 CallA.of_ev (cs := []) Try.func46 (by kernel_rfl) (fun _ _ => Try.call46 _ _) mixed (by kernel_rfl) (by kernel_rfl) k
def F_pdeal_Book_SubmitT (b : Option Addr) (d_0 : Int) (d_1 : Int) (d_2 : Int) (d_3 : Int) (d_4 : Int) (d_5 : Int) (d_6 : Int) (h : Heap) (K : Value → Heap → Prop) : Prop := newB h [int IntKind.i64 d_0, int IntKind.i64 d_1, int IntKind.i64 d_2, int IntKind.i64 d_3, int IntKind.i64 d_4, int IntKind.i64 d_5, int IntKind.i64 d_6] 33 fun (r : Nat) (h : Heap) => LdJ7 h r 0 fun n n_1 n_2 n_3 n_4 n_5 n_6 => CallA Try.prog fn_pdeal_Book_may [pointer b, agg #[int IntKind.i64 n, int IntKind.i64 n_1, int IntKind.i64 n_2, int IntKind.i64 n_3, int IntKind.i64 n_4, int IntKind.i64 n_5, int IntKind.i64 n_6]] h fun (v : Value) (h : Heap) => ∃ (b_1 : Bool), v = Value.bool b_1 ∧ Br (!b_1) (Ret h K (tuple #[Value.bool false, int IntKind.i64 1])) (∃ (n : Int), Heap.cell h r 0 = some (int IntKind.i64 n) ∧ CallA Try.prog fn_pdeal_Book_find [pointer b, int IntKind.i64 n] h fun (v : Value) (h : Heap) => ∃ (a : Option Addr), v = pointer a ∧ Br (Option.isNone a) (withAddr b fun (b_2 o : Nat) => ∃ (a_1 : Option Addr), ∃ (n : Nat), ∃ (m : Nat), Heap.cell h b_2 (o + 2) = some (slice a_1 n m) ∧ Br ((↑n : Int) == 200) (Ret h K (tuple #[Value.bool false, int IntKind.i64 4])) (Br (Option.isNone a) (withAddr b fun (b_3 o : Nat) => ∃ (r_1 : Option Nat), Heap.cell h b_3 (o + 3) = some (map r_1) ∧ ∃ (n : Int), Heap.cell h r 0 = some (int IntKind.i64 n) ∧ withAddr b fun (b_4 o : Nat) => ∃ (a : Option Addr), ∃ (n_7 : Nat), ∃ (m : Nat), Heap.cell h b_4 (o + 2) = some (slice a n_7 m) ∧ MPutA h r_1 IntKind.i64 IntKind.i64 n (↑n_7 : Int) fun (h : Heap) => withAddr b fun (b_5 o : Nat) => ∃ (a : Option Addr), ∃ (n : Nat), ∃ (m : Nat), Heap.cell h b_5 (o + 2) = some (slice a n m) ∧ LdJ7 h r 0 fun n_8 n_9 n_10 n_11 n_12 n_13 n_14 => newB h [int IntKind.i64 n_8, int IntKind.i64 n_9, int IntKind.i64 n_10, int IntKind.i64 n_11, int IntKind.i64 n_12, int IntKind.i64 n_13, int IntKind.i64 n_14, int IntKind.i64 1, int IntKind.i64 0, int IntKind.i64 0] 77 fun (r : Nat) (h : Heap) => AppA [int IntKind.i64 0, int IntKind.i64 0, int IntKind.i64 0, int IntKind.i64 0, int IntKind.i64 0, int IntKind.i64 0, int IntKind.i64 0, int IntKind.i64 0, int IntKind.i64 0, int IntKind.i64 0] 77 h a n m 1 (some { block := r, off := 0 }) fun (ap : Option Addr) (cp : Nat) (h : Heap) => withAddr b fun (b o : Nat) => Heap.canSt h b (o + 2) 1 ∧ Ret (Heap.setN h b (o + 2) [slice ap (n + 1) cp]) K (tuple #[Value.bool false, int IntKind.i64 0])) (withAddr a fun (b_3 o : Nat) => ∃ (n : Int), Heap.cell h b_3 (o + 7) = some (int IntKind.i64 n) ∧ Br (n != 1) (Ret h K (tuple #[Value.bool false, int IntKind.i64 6])) (withAddr a fun (b_4 o : Nat) => ∃ (n : Int), Heap.cell h b_4 (o + 1) = some (int IntKind.i64 n) ∧ ∃ (n_7 : Int), Heap.cell h r 1 = some (int IntKind.i64 n_7) ∧ Br (n == n_7) (Ret h K (tuple #[Value.bool false, int IntKind.i64 6])) (withAddr a fun (b_5 o : Nat) => LdJ7 h b_5 o fun n n_8 n_9 n_10 n_11 n_12 n_13 => LdJ7 h r 0 fun n_14 n_15 n_16 n_17 n_18 n_19 n_20 => CallA Try.prog 51 [agg #[int IntKind.i64 n_14, int IntKind.i64 n_15, int IntKind.i64 n_16, int IntKind.i64 n_17, int IntKind.i64 n_18, int IntKind.i64 n_19, int IntKind.i64 n_20]] h fun (v : Value) (h_1 : Heap) => ∃ (n_21 : Int), ∃ (n_22 : Int), ∃ (n_23 : Int), ∃ (n_24 : Int), ∃ (n_25 : Int), ∃ (n_26 : Int), ∃ (n_27 : Int), v = agg #[int IntKind.i64 n_21, int IntKind.i64 n_22, int IntKind.i64 n_23, int IntKind.i64 n_24, int IntKind.i64 n_25, int IntKind.i64 n_26, int IntKind.i64 n_27] ∧ (Heap.le h h_1 ∨ Keeps [b_5] h h_1) ∧ Br (!(n == n_21 && (n_8 == n_22 && (n_9 == n_23 && (n_10 == n_24 && (n_11 == n_25 && (n_12 == n_26 && (n_13 == n_27 && true)))))))) (Ret h_1 K (tuple #[Value.bool false, int IntKind.i64 12])) (withAddr b fun (b_6 o : Nat) => ∃ (n : Int), Heap.cell h_1 b_6 (o + 4) = some (int IntKind.i64 n) ∧ withAddr b fun (b_7 o : Nat) => Heap.canSt h_1 b_7 (o + 4) 1 ∧ withAddr b fun (b o_1 : Nat) => ∃ (n_28 : Int), Heap.cell (Heap.setN h_1 b_7 (o + 4) [int IntKind.i64 (IntKind.wrap IntKind.i64 (n + 1))]) b (o_1 + 4) = some (int IntKind.i64 n_28) ∧ withAddr a fun (b o_2 : Nat) => Heap.canSt (Heap.setN h_1 b_7 (o + 4) [int IntKind.i64 (IntKind.wrap IntKind.i64 (n + 1))]) b (o_2 + 7) 1 ∧ withAddr a fun (b_8 o_3 : Nat) => Heap.canSt (Heap.setN (Heap.setN h_1 b_7 (o + 4) [int IntKind.i64 (IntKind.wrap IntKind.i64 (n + 1))]) b (o_2 + 7) [int IntKind.i64 2]) b_8 (o_3 + 9) 1 ∧ Ret (Heap.setN (Heap.setN (Heap.setN h_1 b_7 (o + 4) [int IntKind.i64 (IntKind.wrap IntKind.i64 (n + 1))]) b (o_2 + 7) [int IntKind.i64 2]) b_8 (o_3 + 9) [int IntKind.i64 n_28]) K (tuple #[Value.bool true, int IntKind.i64 0]))))))) (Br (Option.isNone a) (withAddr b fun (b_2 o : Nat) => ∃ (r_1 : Option Nat), Heap.cell h b_2 (o + 3) = some (map r_1) ∧ ∃ (n : Int), Heap.cell h r 0 = some (int IntKind.i64 n) ∧ withAddr b fun (b_3 o : Nat) => ∃ (a : Option Addr), ∃ (n_7 : Nat), ∃ (m : Nat), Heap.cell h b_3 (o + 2) = some (slice a n_7 m) ∧ MPutA h r_1 IntKind.i64 IntKind.i64 n (↑n_7 : Int) fun (h : Heap) => withAddr b fun (b_4 o : Nat) => ∃ (a : Option Addr), ∃ (n : Nat), ∃ (m : Nat), Heap.cell h b_4 (o + 2) = some (slice a n m) ∧ LdJ7 h r 0 fun n_8 n_9 n_10 n_11 n_12 n_13 n_14 => newB h [int IntKind.i64 n_8, int IntKind.i64 n_9, int IntKind.i64 n_10, int IntKind.i64 n_11, int IntKind.i64 n_12, int IntKind.i64 n_13, int IntKind.i64 n_14, int IntKind.i64 1, int IntKind.i64 0, int IntKind.i64 0] 77 fun (r : Nat) (h : Heap) => AppA [int IntKind.i64 0, int IntKind.i64 0, int IntKind.i64 0, int IntKind.i64 0, int IntKind.i64 0, int IntKind.i64 0, int IntKind.i64 0, int IntKind.i64 0, int IntKind.i64 0, int IntKind.i64 0] 77 h a n m 1 (some { block := r, off := 0 }) fun (ap : Option Addr) (cp : Nat) (h : Heap) => withAddr b fun (b o : Nat) => Heap.canSt h b (o + 2) 1 ∧ Ret (Heap.setN h b (o + 2) [slice ap (n + 1) cp]) K (tuple #[Value.bool false, int IntKind.i64 0])) (withAddr a fun (b_2 o : Nat) => ∃ (n : Int), Heap.cell h b_2 (o + 7) = some (int IntKind.i64 n) ∧ Br (n != 1) (Ret h K (tuple #[Value.bool false, int IntKind.i64 6])) (withAddr a fun (b_3 o : Nat) => ∃ (n : Int), Heap.cell h b_3 (o + 1) = some (int IntKind.i64 n) ∧ ∃ (n_7 : Int), Heap.cell h r 1 = some (int IntKind.i64 n_7) ∧ Br (n == n_7) (Ret h K (tuple #[Value.bool false, int IntKind.i64 6])) (withAddr a fun (b_4 o : Nat) => LdJ7 h b_4 o fun n n_8 n_9 n_10 n_11 n_12 n_13 => LdJ7 h r 0 fun n_14 n_15 n_16 n_17 n_18 n_19 n_20 => CallA Try.prog 51 [agg #[int IntKind.i64 n_14, int IntKind.i64 n_15, int IntKind.i64 n_16, int IntKind.i64 n_17, int IntKind.i64 n_18, int IntKind.i64 n_19, int IntKind.i64 n_20]] h fun (v : Value) (h_1 : Heap) => ∃ (n_21 : Int), ∃ (n_22 : Int), ∃ (n_23 : Int), ∃ (n_24 : Int), ∃ (n_25 : Int), ∃ (n_26 : Int), ∃ (n_27 : Int), v = agg #[int IntKind.i64 n_21, int IntKind.i64 n_22, int IntKind.i64 n_23, int IntKind.i64 n_24, int IntKind.i64 n_25, int IntKind.i64 n_26, int IntKind.i64 n_27] ∧ (Heap.le h h_1 ∨ Keeps [b_4] h h_1) ∧ Br (!(n == n_21 && (n_8 == n_22 && (n_9 == n_23 && (n_10 == n_24 && (n_11 == n_25 && (n_12 == n_26 && (n_13 == n_27 && true)))))))) (Ret h_1 K (tuple #[Value.bool false, int IntKind.i64 12])) (withAddr b fun (b_5 o : Nat) => ∃ (n : Int), Heap.cell h_1 b_5 (o + 4) = some (int IntKind.i64 n) ∧ withAddr b fun (b_6 o : Nat) => Heap.canSt h_1 b_6 (o + 4) 1 ∧ withAddr b fun (b o_1 : Nat) => ∃ (n_28 : Int), Heap.cell (Heap.setN h_1 b_6 (o + 4) [int IntKind.i64 (IntKind.wrap IntKind.i64 (n + 1))]) b (o_1 + 4) = some (int IntKind.i64 n_28) ∧ withAddr a fun (b o_2 : Nat) => Heap.canSt (Heap.setN h_1 b_6 (o + 4) [int IntKind.i64 (IntKind.wrap IntKind.i64 (n + 1))]) b (o_2 + 7) 1 ∧ withAddr a fun (b_7 o_3 : Nat) => Heap.canSt (Heap.setN (Heap.setN h_1 b_6 (o + 4) [int IntKind.i64 (IntKind.wrap IntKind.i64 (n + 1))]) b (o_2 + 7) [int IntKind.i64 2]) b_7 (o_3 + 9) 1 ∧ Ret (Heap.setN (Heap.setN (Heap.setN h_1 b_6 (o + 4) [int IntKind.i64 (IntKind.wrap IntKind.i64 (n + 1))]) b (o_2 + 7) [int IntKind.i64 2]) b_7 (o_3 + 9) [int IntKind.i64 n_28]) K (tuple #[Value.bool true, int IntKind.i64 0])))))))
theorem F_pdeal_Book_Submit (b : Option Addr) (d_0 : Int) (d_1 : Int) (d_2 : Int) (d_3 : Int) (d_4 : Int) (d_5 : Int) (d_6 : Int) (h : Heap) (K : Value → Heap → Prop) (k : F_pdeal_Book_SubmitT b d_0 d_1 d_2 d_3 d_4 d_5 d_6 h K) : CallA Try.prog fn_pdeal_Book_Submit [pointer b, agg #[int IntKind.i64 d_0, int IntKind.i64 d_1, int IntKind.i64 d_2, int IntKind.i64 d_3, int IntKind.i64 d_4, int IntKind.i64 d_5, int IntKind.i64 d_6]] h K :=
 CallA.of_ev (cs := []) Try.func19 (by kernel_rfl) (fun _ _ => Try.call19 _ _) mixed (by kernel_rfl) (by kernel_rfl) k
def F_pdeal_entry_whoT (x : Option Addr) (member : Int) (h : Heap) (K : Value → Heap → Prop) : Prop :=
 withAddr x fun (b o : Nat) =>
 ∃ (n : Int),
 Heap.cell h b (o + 1) = some (int IntKind.i64 n) ∧
 Br (member == n) (Ret h K (int IntKind.i64 1))
 (withAddr x fun (b o : Nat) =>
 ∃ (n : Int),
 Heap.cell h b (o + 2) = some (int IntKind.i64 n) ∧
 Br (member == n) (withAddr x fun (b o : Nat) => ∃ (n : Int), Heap.cell h b (o + 7) = some (int IntKind.i64 n) ∧ Br (n != 1) (Ret h K (int IntKind.i64 2)) (Ret h K (int IntKind.i64 0)))
 (Ret h K (int IntKind.i64 0)))
theorem F_pdeal_entry_who (x : Option Addr) (member : Int) (h : Heap) (K : Value → Heap → Prop) (k : F_pdeal_entry_whoT x member h K) : CallA Try.prog fn_pdeal_entry_who [pointer x, int IntKind.i64 member] h K :=
 CallA.of_ev (cs := []) Try.func52 (by kernel_rfl) (fun _ _ => Try.call52 _ _) mixed (by kernel_rfl) (by kernel_rfl) k
def F_pdeal_Book_RescindT (b : Option Addr) (member : Int) (id : Int) (h : Heap) (K : Value → Heap → Prop) : Prop :=
 CallA Try.prog fn_pdeal_Book_find [pointer b, int IntKind.i64 id] h fun (v : Value) (h : Heap) =>
 ∃ (a : Option Addr),
 v = pointer a ∧
 Br (Option.isNone a) (Ret h K (tuple #[int IntKind.i64 0, int IntKind.i64 5]))
 (CallA Try.prog fn_pdeal_entry_who [pointer a, int IntKind.i64 member] h fun (v : Value) (h : Heap) =>
 ∃ (n : Int),
 v = int IntKind.i64 n ∧
 Br (n == 0) (Ret h K (tuple #[int IntKind.i64 0, int IntKind.i64 5]))
 (withAddr a fun (b o : Nat) =>
 ∃ (n : Int),
 Heap.cell h b (o + 7) = some (int IntKind.i64 n) ∧
 Br (decide (n ≥ 3)) (Ret h K (tuple #[int IntKind.i64 0, int IntKind.i64 7]))
 (withAddr a fun (b o : Nat) =>
 ∃ (n : Int),
 Heap.cell h b (o + 7) = some (int IntKind.i64 n) ∧
 Br (n == 1) (withAddr a fun (b o : Nat) => Heap.canSt h b (o + 7) 1 ∧ Ret (Heap.setN h b (o + 7) [int IntKind.i64 4]) K (tuple #[int IntKind.i64 4, int IntKind.i64 0]))
 (withAddr a fun (b o : Nat) =>
 ∃ (n : Int),
 Heap.cell h b (o + 8) = some (int IntKind.i64 n) ∧
 CallA Try.prog fn_pdeal_entry_who [pointer a, int IntKind.i64 member] h fun (v : Value) (h_1 : Heap) =>
 ∃ (n_1 : Int),
 v = int IntKind.i64 n_1 ∧
 (Heap.le h h_1 ∨ Keeps [b] h h_1) ∧
 Br (IntKind.wrap IntKind.i64 (↑(BitVec.toNat (BitVec.ofInt 64 n &&& BitVec.ofInt 64 n_1)) : Int) != 0) (Ret h_1 K (tuple #[int IntKind.i64 0, int IntKind.i64 6]))
 (withAddr a fun (b o : Nat) =>
 ∃ (n : Int),
 Heap.cell h_1 b (o + 8) = some (int IntKind.i64 n) ∧
 CallA Try.prog fn_pdeal_entry_who [pointer a, int IntKind.i64 member] h_1 fun (v : Value) (h : Heap) =>
 ∃ (n_2 : Int),
 v = int IntKind.i64 n_2 ∧
 (Heap.le h_1 h ∨ Keeps [b] h_1 h) ∧
 withAddr a fun (b o : Nat) =>
 Heap.canSt h b (o + 8) 1 ∧
 withAddr a fun (b_1 o_1 : Nat) =>
 ∃ (n_3 : Int),
 Heap.cell (Heap.setN h b (o + 8) [int IntKind.i64 (IntKind.wrap IntKind.i64 (↑(BitVec.toNat (BitVec.ofInt 64 n ||| BitVec.ofInt 64 n_2)) : Int))]) b_1
 (o_1 + 8) =
 some (int IntKind.i64 n_3) ∧
 Br (n_3 == 3)
 (withAddr a fun (b_2 o_2 : Nat) =>
 Heap.canSt
 (Heap.setN h b (o + 8) [int IntKind.i64 (IntKind.wrap IntKind.i64 (↑(BitVec.toNat (BitVec.ofInt 64 n ||| BitVec.ofInt 64 n_2)) : Int))]) b_2
 (o_2 + 7) 1 ∧
 withAddr a fun (b_3 o_3 : Nat) =>
 ∃ (n_4 : Int),
 Heap.cell
 (Heap.setN
 (Heap.setN h b (o + 8)
 [int IntKind.i64 (IntKind.wrap IntKind.i64 (↑(BitVec.toNat (BitVec.ofInt 64 n ||| BitVec.ofInt 64 n_2)) : Int))])
 b_2 (o_2 + 7) [int IntKind.i64 4])
 b_3 (o_3 + 7) =
 some (int IntKind.i64 n_4) ∧
 Ret
 (Heap.setN
 (Heap.setN h b (o + 8)
 [int IntKind.i64 (IntKind.wrap IntKind.i64 (↑(BitVec.toNat (BitVec.ofInt 64 n ||| BitVec.ofInt 64 n_2)) : Int))])
 b_2 (o_2 + 7) [int IntKind.i64 4])
 K (tuple #[int IntKind.i64 n_4, int IntKind.i64 0]))
 (withAddr a fun (b_2 o_2 : Nat) =>
 ∃ (n_4 : Int),
 Heap.cell
 (Heap.setN h b (o + 8) [int IntKind.i64 (IntKind.wrap IntKind.i64 (↑(BitVec.toNat (BitVec.ofInt 64 n ||| BitVec.ofInt 64 n_2)) : Int))])
 b_2 (o_2 + 7) =
 some (int IntKind.i64 n_4) ∧
 Ret (Heap.setN h b (o + 8) [int IntKind.i64 (IntKind.wrap IntKind.i64 (↑(BitVec.toNat (BitVec.ofInt 64 n ||| BitVec.ofInt 64 n_2)) : Int))])
 K (tuple #[int IntKind.i64 n_4, int IntKind.i64 0])))))))
theorem F_pdeal_Book_Rescind (b : Option Addr) (member : Int) (id : Int) (h : Heap) (K : Value → Heap → Prop) (k : F_pdeal_Book_RescindT b member id h K) : CallA Try.prog fn_pdeal_Book_Rescind [pointer b, int IntKind.i64 member, int IntKind.i64 id] h K :=
 CallA.of_ev (cs := []) Try.func21 (by kernel_rfl) (fun _ _ => Try.call21 _ _) mixed (by kernel_rfl) (by kernel_rfl) k
def F_pdeal_Book_SettleT (b : Option Addr) (id : Int) (h : Heap) (K : Value → Heap → Prop) : Prop :=
 CallA Try.prog fn_pdeal_Book_find [pointer b, int IntKind.i64 id] h fun (v : Value) (h : Heap) =>
 ∃ (a : Option Addr),
 v = pointer a ∧
 Br (Option.isNone a) (Ret h K (int IntKind.i64 5))
 (withAddr a fun (b o : Nat) =>
 ∃ (n : Int),
 Heap.cell h b (o + 7) = some (int IntKind.i64 n) ∧
 Br (n != 2) (Ret h K (int IntKind.i64 7)) (withAddr a fun (b o : Nat) => Heap.canSt h b (o + 7) 1 ∧ Ret (Heap.setN h b (o + 7) [int IntKind.i64 3]) K (int IntKind.i64 0)))
theorem F_pdeal_Book_Settle (b : Option Addr) (id : Int) (h : Heap) (K : Value → Heap → Prop) (k : F_pdeal_Book_SettleT b id h K) : CallA Try.prog fn_pdeal_Book_Settle [pointer b, int IntKind.i64 id] h K :=
 CallA.of_ev (cs := []) Try.func22 (by kernel_rfl) (fun _ _ => Try.call22 _ _) mixed (by kernel_rfl) (by kernel_rfl) k
def L_pdeal_Book_Remove_0 (b : Option Addr) (member : Int) (l : Option Addr) (ln : Nat) (lc : Nat) (t12 : Int) (t13 : Int) (h : Heap) (K : Value → Heap → Prop) : Prop :=
 LoopAt Try.prog Try.f24 24 (loopK Try.f24 0) (sp 58 [(0, pointer b), (1, int IntKind.i64 member), (5, slice l ln lc), (12, int IntKind.i64 t12), (13, int IntKind.i64 t13)]) h K
def L_pdeal_Book_Remove_0T (b : Option Addr) (member : Int) (l : Option Addr) (ln : Nat) (lc : Nat) (t12 : Int) (t13 : Int) (h : Heap) (K : Value → Heap → Prop) : Prop :=
 Br (decide (t13 < t12))
 (withAddr b fun (b_1 o : Nat) =>
 ∃ (a : Option Addr),
 ∃ (n : Nat),
 ∃ (m : Nat),
 Heap.cell h b_1 (o + 2) = some (slice a n m) ∧
 0 ≤ t13 ∧
 t13 < (↑n : Int) ∧
 withAddr a fun (b_2 o : Nat) =>
 ∃ (n : Int),
 Heap.cell h b_2 (o + Int.toNat t13 * 10 + 7) = some (int IntKind.i64 n) ∧
 Br (decide (n < 3))
 (∃ (n : Int),
 Heap.cell h b_2 (o + Int.toNat t13 * 10 + 1) = some (int IntKind.i64 n) ∧
 Br (n == member)
 (Heap.canSt h b_2 (o + Int.toNat t13 * 10 + 7) 1 ∧
 ∃ (n : Int),
 Heap.cell (Heap.setN h b_2 (o + Int.toNat t13 * 10 + 7) [int IntKind.i64 4]) b_2 (o + Int.toNat t13 * 10) = some (int IntKind.i64 n) ∧
 newB (Heap.setN h b_2 (o + Int.toNat t13 * 10 + 7) [int IntKind.i64 4]) [int IntKind.i64 n] 3 fun (r : Nat) (h : Heap) =>
 AppA [int IntKind.i64 0] 3 h l ln lc 1 (some { block := r, off := 0 }) fun (ap : Option Addr) (cp : Nat) (h : Heap) =>
 L_pdeal_Book_Remove_0 b member ap (ln + 1) cp t12 (IntKind.wrap IntKind.i64 (t13 + 1)) h K)
 (∃ (n : Int),
 Heap.cell h b_2 (o + Int.toNat t13 * 10 + 2) = some (int IntKind.i64 n) ∧
 Br (n == member)
 (Heap.canSt h b_2 (o + Int.toNat t13 * 10 + 7) 1 ∧
 ∃ (n : Int),
 Heap.cell (Heap.setN h b_2 (o + Int.toNat t13 * 10 + 7) [int IntKind.i64 4]) b_2 (o + Int.toNat t13 * 10) = some (int IntKind.i64 n) ∧
 newB (Heap.setN h b_2 (o + Int.toNat t13 * 10 + 7) [int IntKind.i64 4]) [int IntKind.i64 n] 3 fun (r : Nat) (h : Heap) =>
 AppA [int IntKind.i64 0] 3 h l ln lc 1 (some { block := r, off := 0 }) fun (ap : Option Addr) (cp : Nat) (h : Heap) =>
 L_pdeal_Book_Remove_0 b member ap (ln + 1) cp t12 (IntKind.wrap IntKind.i64 (t13 + 1)) h K)
 (L_pdeal_Book_Remove_0 b member l ln lc t12 (IntKind.wrap IntKind.i64 (t13 + 1)) h K)))
 (L_pdeal_Book_Remove_0 b member l ln lc t12 (IntKind.wrap IntKind.i64 (t13 + 1)) h K))
 (Ret h K (slice l ln lc))
theorem L_pdeal_Book_Remove_0r (b : Option Addr) (member : Int) (l : Option Addr) (ln : Nat) (lc : Nat) (t12 : Int) (t13 : Int) (h : Heap) (K : Value → Heap → Prop) (k : L_pdeal_Book_Remove_0T b member l ln lc t12 t13 h K) : L_pdeal_Book_Remove_0 b member l ln lc t12 t13 h K :=
 LoopAt.of_ev (cs := []) Try.func24 mixed (fun junk => by kernel_rfl) k
def F_pdeal_Book_RemoveT (b : Option Addr) (member : Int) (h : Heap) (K : Value → Heap → Prop) : Prop :=
 withAddr b fun (b_1 o : Nat) => ∃ (a : Option Addr), ∃ (n : Nat), ∃ (m : Nat), Heap.cell h b_1 (o + 2) = some (slice a n m) ∧ L_pdeal_Book_Remove_0 b member none 0 0 (↑n : Int) 0 h K
theorem F_pdeal_Book_Remove (b : Option Addr) (member : Int) (h : Heap) (K : Value → Heap → Prop) (k : F_pdeal_Book_RemoveT b member h K) : CallA Try.prog fn_pdeal_Book_Remove [pointer b, int IntKind.i64 member] h K :=
 CallA.of_ev (cs := []) Try.func24 (by kernel_rfl) (fun _ _ => Try.call24 _ _) mixed (by kernel_rfl) (by kernel_rfl) k
def F_pdeal_Book_StateT (b : Option Addr) (id : Int) (h : Heap) (K : Value → Heap → Prop) : Prop :=
 CallA Try.prog fn_pdeal_Book_find [pointer b, int IntKind.i64 id] h fun (v : Value) (h : Heap) =>
 ∃ (a : Option Addr), v = pointer a ∧ Br (!Option.isNone a) (withAddr a fun (b o : Nat) => ∃ (n : Int), Heap.cell h b (o + 7) = some (int IntKind.i64 n) ∧ Ret h K (int IntKind.i64 n)) (Ret h K (int IntKind.i64 0))
theorem F_pdeal_Book_State (b : Option Addr) (id : Int) (h : Heap) (K : Value → Heap → Prop) (k : F_pdeal_Book_StateT b id h K) : CallA Try.prog fn_pdeal_Book_State [pointer b, int IntKind.i64 id] h K :=
 CallA.of_ev (cs := []) Try.func20 (by kernel_rfl) (fun _ _ => Try.call20 _ _) mixed (by kernel_rfl) (by kernel_rfl) k
def F_pdeal_Book_DealT (b : Option Addr) (id : Int) (h : Heap) (K : Value → Heap → Prop) : Prop := newB h [int IntKind.i64 0, int IntKind.i64 0, int IntKind.i64 0, int IntKind.i64 0, int IntKind.i64 0, int IntKind.i64 0, int IntKind.i64 0] 33 fun (r : Nat) (h : Heap) => CallA Try.prog fn_pdeal_Book_find [pointer b, int IntKind.i64 id] h fun (v : Value) (h : Heap) => ∃ (a : Option Addr), v = pointer a ∧ Br (!Option.isNone a) (withAddr a fun (b o : Nat) => LdJ7 h b o fun n n_1 n_2 n_3 n_4 n_5 n_6 => Heap.canSt h r 0 7 ∧ LdJ7 (Heap.setN h r 0 [int IntKind.i64 n, int IntKind.i64 n_1, int IntKind.i64 n_2, int IntKind.i64 n_3, int IntKind.i64 n_4, int IntKind.i64 n_5, int IntKind.i64 n_6]) r 0 fun n_7 n_8 n_9 n_10 n_11 n_12 n_13 => Ret (Heap.setN h r 0 [int IntKind.i64 n, int IntKind.i64 n_1, int IntKind.i64 n_2, int IntKind.i64 n_3, int IntKind.i64 n_4, int IntKind.i64 n_5, int IntKind.i64 n_6]) K (tuple #[agg #[int IntKind.i64 n_7, int IntKind.i64 n_8, int IntKind.i64 n_9, int IntKind.i64 n_10, int IntKind.i64 n_11, int IntKind.i64 n_12, int IntKind.i64 n_13], Value.bool true])) (Heap.canSt h r 0 7 ∧ LdJ7 (Heap.setN h r 0 [int IntKind.i64 0, int IntKind.i64 0, int IntKind.i64 0, int IntKind.i64 0, int IntKind.i64 0, int IntKind.i64 0, int IntKind.i64 0]) r 0 fun n n_1 n_2 n_3 n_4 n_5 n_6 => Ret (Heap.setN h r 0 [int IntKind.i64 0, int IntKind.i64 0, int IntKind.i64 0, int IntKind.i64 0, int IntKind.i64 0, int IntKind.i64 0, int IntKind.i64 0]) K (tuple #[agg #[int IntKind.i64 n, int IntKind.i64 n_1, int IntKind.i64 n_2, int IntKind.i64 n_3, int IntKind.i64 n_4, int IntKind.i64 n_5, int IntKind.i64 n_6], Value.bool false]))
theorem F_pdeal_Book_Deal (b : Option Addr) (id : Int) (h : Heap) (K : Value → Heap → Prop) (k : F_pdeal_Book_DealT b id h K) : CallA Try.prog fn_pdeal_Book_Deal [pointer b, int IntKind.i64 id] h K :=
 CallA.of_ev (cs := []) Try.func23 (by kernel_rfl) (fun _ _ => Try.call23 _ _) mixed (by kernel_rfl) (by kernel_rfl) k
def F_deal_NewT (members : Int) (currencies : Int) (h : Heap) (K : Value → Heap → Prop) : Prop :=
 Br (decide (members < 1)) (Ret h K (tuple #[pointer none, int IntKind.i64 1]))
 (Br (decide (members > 16)) (Ret h K (tuple #[pointer none, int IntKind.i64 1]))
 (Br (decide (currencies < 1)) (Ret h K (tuple #[pointer none, int IntKind.i64 1]))
 (Br (decide (currencies > 8)) (Ret h K (tuple #[pointer none, int IntKind.i64 1]))
 (MNewA h fun (r : Nat) (h : Heap) =>
 newB h [int IntKind.i64 members, int IntKind.i64 currencies, slice none 0 0, map (some r), int IntKind.i64 0] 68 fun (r : Nat) (h : Heap) =>
 Ret h K (tuple #[pointer (some { block := r, off := 0 }), int IntKind.i64 0])))))
theorem F_deal_New (members : Int) (currencies : Int) (h : Heap) (K : Value → Heap → Prop) (k : F_deal_NewT members currencies h K) : CallA Try.prog fn_deal_New [int IntKind.i64 members, int IntKind.i64 currencies] h K :=
 CallA.of_ev (cs := []) Try.func9 (by kernel_rfl) (fun _ _ => Try.call9 _ _) mixed (by kernel_rfl) (by kernel_rfl) k
end Go.Proofs.Ytjihfieahkbohaa
