import Derived.Test.YtkcogdmddhkldaaEqN
namespace Go.Proofs.Ytkcogdmddhkldaa
open Go Go.Sy Go.Value
set_option linter.unusedVariables false
set_option maxRecDepth 100000
def L_inout_Propose_0 (least : Int) (t : Nat) (k' : Nat) (t38 : Option Addr) (t38n : Nat) (t38c : Nat) (t39 : Int) (t40 : Int) (h : Heap) (K : Value → Heap → Prop) : Prop :=
 LoopAt Try.prog Try.f16 16 (loopK Try.f16 0) (sp 77 [(2, int IntKind.i64 least), (3, pointer (some { block := t, off := 0 })), (11, pointer (some { block := k', off := 0 })), (38, slice t38 t38n t38c), (39, int IntKind.i64 t39), (40, int IntKind.i64 t40)]) h K
def L_inout_Propose_1 (least : Int) (t : Nat) (k' : Nat) (cur : Int) (h : Heap) (K : Value → Heap → Prop) : Prop :=
 LoopAt Try.prog Try.f16 16 (loopK Try.f16 1) (sp 77 [(2, int IntKind.i64 least), (3, pointer (some { block := t, off := 0 })), (11, pointer (some { block := k', off := 0 })), (14, int IntKind.i64 cur)]) h K
def L_inout_Propose_0T (least : Int) (t : Nat) (k' : Nat) (t38 : Option Addr) (t38n : Nat) (t38c : Nat) (t39 : Int) (t40 : Int) (h : Heap) (K : Value → Heap → Prop) : Prop :=
 Br (decide (t40 < t39))
 (0 ≤ t40 ∧
 t40 < (↑t38n : Int) ∧
 withAddr t38 fun (b o : Nat) =>
 ∃ (a : Option Addr),
 ∃ (n : Nat),
 ∃ (m : Nat),
 Heap.cell h b (o + Int.toNat t40) = some (slice a n m) ∧
 ∃ (a_1 : Option Addr),
 ∃ (n_1 : Nat),
 ∃ (m_1 : Nat),
 Heap.cell h k' 1 = some (slice a_1 n_1 m_1) ∧
 CallA Try.prog fn_slices_Clone_int64_int64 [slice a n m] h fun (v : Value) (h_1 : Heap) =>
 ∃ (a : Option Addr),
 ∃ (n : Nat),
 ∃ (m : Nat),
 v = slice a n m ∧
 (Heap.le h h_1 ∨ Keeps [k'] h h_1) ∧
 newB h_1 [slice a n m] 36 fun (r : Nat) (h : Heap) =>
 AppA [slice none 0 0] 36 h a_1 n_1 m_1 1 (some { block := r, off := 0 }) fun (ap : Option Addr) (cp : Nat) (h : Heap) =>
 Heap.canSt h k' 1 1 ∧ L_inout_Propose_0 least t k' t38 t38n t38c t39 (IntKind.wrap IntKind.i64 (t40 + 1)) (Heap.setN h k' 1 [slice ap (n_1 + 1) cp]) K)
 (L_inout_Propose_1 least t k' 1 h K)
theorem L_inout_Propose_0r (least : Int) (t : Nat) (k' : Nat) (t38 : Option Addr) (t38n : Nat) (t38c : Nat) (t39 : Int) (t40 : Int) (h : Heap) (K : Value → Heap → Prop) (k : L_inout_Propose_0T least t k' t38 t38n t38c t39 t40 h K) : L_inout_Propose_0 least t k' t38 t38n t38c t39 t40 h K :=
 LoopAt.of_ev (cs := []) Try.func16 mixed (fun junk => by kernel_rfl) k
def L_inout_Propose_1T (least : Int) (t : Nat) (k' : Nat) (cur : Int) (h : Heap) (K : Value → Heap → Prop) : Prop :=
 ∃ (a : Option Addr),
 ∃ (n : Nat),
 ∃ (m : Nat),
 Heap.cell h t 0 = some (slice a n m) ∧
 Br (decide (cur < (↑n : Int)))
 (CallA Try.prog fn_pinout_maker_currency [pointer (some { block := k', off := 0 }), int IntKind.i64 cur, int IntKind.i64 least] h fun (v : Value) (h : Heap) =>
 ∃ (n : Int), v = int IntKind.i64 n ∧ Br (n != 0) (Ret h K (tuple #[slice none 0 0, slice none 0 0, int IntKind.i64 n])) (L_inout_Propose_1 least t k' (IntKind.wrap IntKind.i64 (cur + 1)) h K))
 (∃ (a : Option Addr),
 ∃ (n : Nat),
 ∃ (m : Nat),
 Heap.cell h k' 2 = some (slice a n m) ∧
 ∃ (a_1 : Option Addr), ∃ (n_1 : Nat), ∃ (m_1 : Nat), Heap.cell h k' 1 = some (slice a_1 n_1 m_1) ∧ Ret h K (tuple #[slice a n m, slice a_1 n_1 m_1, int IntKind.i64 0]))
theorem L_inout_Propose_1r (least : Int) (t : Nat) (k' : Nat) (cur : Int) (h : Heap) (K : Value → Heap → Prop) (k : L_inout_Propose_1T least t k' cur h K) : L_inout_Propose_1 least t k' cur h K :=
 LoopAt.of_ev (cs := []) Try.func16 mixed (fun junk => by kernel_rfl) k
def F_inout_ProposeT (t : Option Addr) (tn : Nat) (tc : Nat) (net : Option Addr) (netn : Nat) (netc : Nat) (least : Int) (h : Heap) (K : Value → Heap → Prop) : Prop :=
 newB h [slice t tn tc] 22 fun (r : Nat) (h : Heap) =>
 ∃ (a : Option Addr),
 ∃ (n : Nat),
 ∃ (m : Nat),
 Heap.cell h r 0 = some (slice a n m) ∧
 CallA Try.prog fn_table_Check [slice a n m] h fun (v : Value) (h : Heap) =>
 ∃ (n : Int),
 v = int IntKind.i64 n ∧
 Br (n != 0) (Ret h K (tuple #[slice none 0 0, slice none 0 0, int IntKind.i64 n]))
 (Br (decide ((↑netn : Int) > 16)) (Ret h K (tuple #[slice none 0 0, slice none 0 0, int IntKind.i64 4]))
 (CallA Try.prog fn_slices_ContainsFunc_sint64_sint64 [slice net netn netc, func (Fn.func fn_inout_Propose_1) #[] #[pointer (some { block := r, off := 0 })]] h fun (v : Value) (h : Heap) =>
 ∃ (b : Bool),
 v = Value.bool b ∧
 Br b (Ret h K (tuple #[slice none 0 0, slice none 0 0, int IntKind.i64 1]))
 (Br (decide (least < 1)) (Ret h K (tuple #[slice none 0 0, slice none 0 0, int IntKind.i64 1]))
 (∃ (a : Option Addr),
 ∃ (n : Nat),
 ∃ (m : Nat),
 Heap.cell h r 0 = some (slice a n m) ∧ newB h [slice a n m, slice none 0 0, slice none 0 0] 112 fun (r_1 : Nat) (h : Heap) => L_inout_Propose_0 least r r_1 net netn netc (↑netn : Int) 0 h K))))
theorem F_inout_Propose (t : Option Addr) (tn : Nat) (tc : Nat) (net : Option Addr) (netn : Nat) (netc : Nat) (least : Int) (h : Heap) (K : Value → Heap → Prop) (k : F_inout_ProposeT t tn tc net netn netc least h K) : CallA Try.prog fn_inout_Propose [slice t tn tc, slice net netn netc, int IntKind.i64 least] h K :=
 CallA.of_ev (cs := []) Try.func16 (by kernel_rfl) (fun _ _ => Try.call16 _ _) mixed (by kernel_rfl) (by kernel_rfl) k
def F_inout_Propose_1T (row : Option Addr) (rown : Nat) (rowc : Nat) (c0 : Nat) (h : Heap) (K : Value → Heap → Prop) : Prop :=
 ∃ (a : Option Addr), ∃ (n : Nat), ∃ (m : Nat), Heap.cell h c0 0 = some (slice a n m) ∧ Ret h K (Value.bool ((↑rown : Int) != (↑n : Int)))
theorem F_inout_Propose_1 (row : Option Addr) (rown : Nat) (rowc : Nat) (c0 : Nat) (h : Heap) (K : Value → Heap → Prop) (k : F_inout_Propose_1T row rown rowc c0 h K) : CallA Try.prog fn_inout_Propose_1 [slice row rown rowc, pointer (some { block := c0, off := 0 })] h K :=
 CallA.of_ev (cs := []) Try.func63 (by kernel_rfl) (fun _ _ => Try.call63 _ _) mixed (by kernel_rfl) (by kernel_rfl) k
def L_pinout_maker_currency_0 (k' : Option Addr) (cur : Int) (least : Int) (t18 : Int) (t19 : Int) (h : Heap) (K : Value → Heap → Prop) : Prop :=
 LoopAt Try.prog Try.f67 67 (loopK Try.f67 0) (sp 87 [(0, pointer k'), (1, int IntKind.i64 cur), (2, int IntKind.i64 least), (18, int IntKind.i64 t18), (19, int IntKind.i64 t19)]) h K
def L_pinout_maker_currency_1 (k' : Option Addr) (cur : Int) (least : Int) (to : Int) (t18 : Int) (t19 : Int) (t26 : Int) (t27 : Int) (h : Heap) (K : Value → Heap → Prop) : Prop :=
 LoopAt Try.prog Try.f67 67 (loopK Try.f67 1) (sp 87 [(0, pointer k'), (1, int IntKind.i64 cur), (2, int IntKind.i64 least), (7, int IntKind.i64 to), (18, int IntKind.i64 t18), (19, int IntKind.i64 t19), (26, int IntKind.i64 t26), (27, int IntKind.i64 t27)]) h K
def L_pinout_maker_currency_0T (k' : Option Addr) (cur : Int) (least : Int) (t18 : Int) (t19 : Int) (h : Heap) (K : Value → Heap → Prop) : Prop :=
 Br (decide (t19 < t18)) (withAddr k' fun (b o : Nat) => ∃ (a : Option Addr), ∃ (n : Nat), ∃ (m : Nat), Heap.cell h b (o + 1) = some (slice a n m) ∧ L_pinout_maker_currency_1 k' cur least t19 t18 t19 (↑n : Int) 0 h K)
 (Ret h K (int IntKind.i64 0))
theorem L_pinout_maker_currency_0r (k' : Option Addr) (cur : Int) (least : Int) (t18 : Int) (t19 : Int) (h : Heap) (K : Value → Heap → Prop) (k : L_pinout_maker_currency_0T k' cur least t18 t19 h K) : L_pinout_maker_currency_0 k' cur least t18 t19 h K :=
 LoopAt.of_ev (cs := []) Try.func67 mixed (fun junk => by kernel_rfl) k
def L_pinout_maker_currency_1T (k' : Option Addr) (cur : Int) (least : Int) (to : Int) (t18 : Int) (t19 : Int) (t26 : Int) (t27 : Int) (h : Heap) (K : Value → Heap → Prop) : Prop :=
 Br (decide (t27 < t26))
 (withAddr k' fun (b o : Nat) =>
 ∃ (a : Option Addr),
 ∃ (n : Nat),
 ∃ (m : Nat),
 Heap.cell h b (o + 1) = some (slice a n m) ∧
 0 ≤ to ∧
 to < (↑n : Int) ∧
 withAddr a fun (b o : Nat) =>
 ∃ (a : Option Addr),
 ∃ (n : Nat),
 ∃ (m : Nat),
 Heap.cell h b (o + Int.toNat to) = some (slice a n m) ∧
 0 ≤ cur ∧
 cur < (↑n : Int) ∧
 withAddr a fun (b o : Nat) =>
 ∃ (n : Int),
 Heap.cell h b (o + Int.toNat cur) = some (int IntKind.i64 n) ∧
 Br (decide (n ≥ 0)) (L_pinout_maker_currency_0 k' cur least t18 (IntKind.wrap IntKind.i64 (t19 + 1)) h K)
 (withAddr k' fun (b o : Nat) =>
 ∃ (a : Option Addr),
 ∃ (n_1 : Nat),
 ∃ (m : Nat),
 Heap.cell h b (o + 1) = some (slice a n_1 m) ∧
 0 ≤ t27 ∧
 t27 < (↑n_1 : Int) ∧
 withAddr a fun (b o : Nat) =>
 ∃ (a : Option Addr),
 ∃ (n_2 : Nat),
 ∃ (m : Nat),
 Heap.cell h b (o + Int.toNat t27) = some (slice a n_2 m) ∧
 0 ≤ cur ∧
 cur < (↑n_2 : Int) ∧
 withAddr a fun (b o : Nat) =>
 ∃ (n_3 : Int),
 Heap.cell h b (o + Int.toNat cur) = some (int IntKind.i64 n_3) ∧
 Br (decide (n_3 ≤ 0)) (L_pinout_maker_currency_1 k' cur least to t18 t19 t26 (IntKind.wrap IntKind.i64 (t27 + 1)) h K)
 (CallA Try.prog fn_money_Size [int IntKind.i64 n] h fun (v : Value) (h : Heap) =>
 ∃ (n : Int),
 ∃ (n_4 : Int),
 v = tuple #[int IntKind.i64 n, int IntKind.i64 n_4] ∧
 Br (n_4 != 0) (Ret h K (int IntKind.i64 n_4))
 (withAddr k' fun (b o : Nat) =>
 ∃ (a : Option Addr),
 ∃ (n_5 : Nat),
 ∃ (m : Nat),
 Heap.cell h b (o + 1) = some (slice a n_5 m) ∧
 0 ≤ t27 ∧
 t27 < (↑n_5 : Int) ∧
 withAddr a fun (b o : Nat) =>
 ∃ (a : Option Addr),
 ∃ (n_6 : Nat),
 ∃ (m : Nat),
 Heap.cell h b (o + Int.toNat t27) = some (slice a n_6 m) ∧
 0 ≤ cur ∧
 cur < (↑n_6 : Int) ∧
 withAddr a fun (b o : Nat) =>
 ∃ (n_7 : Int),
 Heap.cell h b (o + Int.toNat cur) = some (int IntKind.i64 n_7) ∧
 Br (decide ((if n_7 < n then n_7 else n) < least))
 (L_pinout_maker_currency_1 k' cur least to t18 t19 t26 (IntKind.wrap IntKind.i64 (t27 + 1)) h K)
 (CallA Try.prog 103
 [pointer k', int IntKind.i64 t27, int IntKind.i64 to, int IntKind.i64 cur,
 int IntKind.i64 (if n_7 < n then n_7 else n)]
 h fun (v : Value) (h : Heap) =>
 ∃ (n : Int),
 v = int IntKind.i64 n ∧
 Br (n != 0) (Ret h K (int IntKind.i64 n))
 (L_pinout_maker_currency_1 k' cur least to t18 t19 t26 (IntKind.wrap IntKind.i64 (t27 + 1)) h K))))))
 (L_pinout_maker_currency_0 k' cur least t18 (IntKind.wrap IntKind.i64 (t19 + 1)) h K)
theorem L_pinout_maker_currency_1r (k' : Option Addr) (cur : Int) (least : Int) (to : Int) (t18 : Int) (t19 : Int) (t26 : Int) (t27 : Int) (h : Heap) (K : Value → Heap → Prop) (k : L_pinout_maker_currency_1T k' cur least to t18 t19 t26 t27 h K) : L_pinout_maker_currency_1 k' cur least to t18 t19 t26 t27 h K :=
 LoopAt.of_ev (cs := []) Try.func67 mixed (fun junk => by kernel_rfl) k
def F_pinout_maker_currencyT (k' : Option Addr) (cur : Int) (least : Int) (h : Heap) (K : Value → Heap → Prop) : Prop :=
 withAddr k' fun (b o : Nat) => ∃ (a : Option Addr), ∃ (n : Nat), ∃ (m : Nat), Heap.cell h b (o + 1) = some (slice a n m) ∧ L_pinout_maker_currency_0 k' cur least (↑n : Int) 0 h K
theorem F_pinout_maker_currency (k' : Option Addr) (cur : Int) (least : Int) (h : Heap) (K : Value → Heap → Prop) (k : F_pinout_maker_currencyT k' cur least h K) : CallA Try.prog fn_pinout_maker_currency [pointer k', int IntKind.i64 cur, int IntKind.i64 least] h K :=
 CallA.of_ev (cs := []) Try.func67 (by kernel_rfl) (fun _ _ => Try.call67 _ _) mixed (by kernel_rfl) (by kernel_rfl) k
def F_pinout_maker_oneT (k' : Option Addr) (from' : Int) (to : Int) (cur : Int) (amount : Int) (h : Heap) (K : Value → Heap → Prop) : Prop :=
 withAddr k' fun (b o : Nat) =>
 ∃ (a : Option Addr),
 ∃ (n : Nat),
 ∃ (m : Nat),
 Heap.cell h b o = some (slice a n m) ∧
 CallA Try.prog fn_table_Change [slice a n m, int IntKind.i64 cur, int IntKind.i64 0, int IntKind.i64 amount, Value.bool false] h fun (v : Value) (h : Heap) =>
 ∃ (n : Int),
 ∃ (n_1 : Int),
 v = tuple #[int IntKind.i64 n, int IntKind.i64 n_1] ∧
 Br (n_1 != 0) (Ret h K (int IntKind.i64 n_1))
 (withAddr k' fun (b o : Nat) =>
 ∃ (a : Option Addr),
 ∃ (n_2 : Nat),
 ∃ (m : Nat),
 Heap.cell h b (o + 1) = some (slice a n_2 m) ∧
 0 ≤ to ∧
 to < (↑n_2 : Int) ∧
 withAddr a fun (b o : Nat) =>
 ∃ (a : Option Addr),
 ∃ (n_3 : Nat),
 ∃ (m : Nat),
 Heap.cell h b (o + Int.toNat to) = some (slice a n_3 m) ∧
 (0 : Int) ≤ 0 ∧
 0 < (↑n_3 : Int) ∧
 withAddr a fun (b o : Nat) =>
 ∃ (n_4 : Int),
 Heap.cell h b o = some (int IntKind.i64 n_4) ∧
 CallA Try.prog fn_money_Sub [int IntKind.i64 n_4, int IntKind.i64 n] h fun (v : Value) (h : Heap) =>
 ∃ (n_5 : Int),
 ∃ (n_6 : Int),
 v = tuple #[int IntKind.i64 n_5, int IntKind.i64 n_6] ∧
 withAddr k' fun (b o : Nat) =>
 ∃ (a : Option Addr),
 ∃ (n_7 : Nat),
 ∃ (m : Nat),
 Heap.cell h b (o + 1) = some (slice a n_7 m) ∧
 0 ≤ from' ∧
 from' < (↑n_7 : Int) ∧
 withAddr a fun (b o : Nat) =>
 ∃ (a : Option Addr),
 ∃ (n_8 : Nat),
 ∃ (m : Nat),
 Heap.cell h b (o + Int.toNat from') = some (slice a n_8 m) ∧
 (0 : Int) ≤ 0 ∧
 0 < (↑n_8 : Int) ∧
 withAddr a fun (b o : Nat) =>
 ∃ (n_9 : Int),
 Heap.cell h b o = some (int IntKind.i64 n_9) ∧
 CallA Try.prog fn_money_Add [int IntKind.i64 n_9, int IntKind.i64 n] h fun (v : Value) (h : Heap) =>
 ∃ (n_10 : Int),
 ∃ (n_11 : Int),
 v = tuple #[int IntKind.i64 n_10, int IntKind.i64 n_11] ∧
 Br (n_6 != 0) (Ret h K (int IntKind.i64 3))
 (Br (n_11 != 0) (Ret h K (int IntKind.i64 3))
 (withAddr k' fun (b o : Nat) =>
 ∃ (a : Option Addr),
 ∃ (n_12 : Nat),
 ∃ (m : Nat),
 Heap.cell h b (o + 1) = some (slice a n_12 m) ∧
 0 ≤ to ∧
 to < (↑n_12 : Int) ∧
 withAddr a fun (b o : Nat) =>
 ∃ (a : Option Addr),
 ∃ (n_13 : Nat),
 ∃ (m : Nat),
 Heap.cell h b (o + Int.toNat to) = some (slice a n_13 m) ∧
 withAddr k' fun (b o : Nat) =>
 ∃ (a_1 : Option Addr),
 ∃ (n_14 : Nat),
 ∃ (m : Nat),
 Heap.cell h b (o + 1) = some (slice a_1 n_14 m) ∧
 0 ≤ from' ∧
 from' < (↑n_14 : Int) ∧
 withAddr a_1 fun (b o : Nat) =>
 ∃ (a_2 : Option Addr),
 ∃ (n_15 : Nat),
 ∃ (m : Nat),
 Heap.cell h b (o + Int.toNat from') = some (slice a_2 n_15 m) ∧
 (0 : Int) ≤ 0 ∧
 0 < (↑n_13 : Int) ∧
 withAddr a fun (b o : Nat) =>
 Heap.canSt h b o 1 ∧
 (0 : Int) ≤ 0 ∧
 0 < (↑n_15 : Int) ∧
 withAddr a_2 fun (b_1 o_1 : Nat) =>
 Heap.canSt (Heap.setN h b o [int IntKind.i64 n_5])
 b_1 o_1 1 ∧
 withAddr k' fun (b_2 o_2 : Nat) =>
 ∃ (a : Option Addr),
 ∃ (n_16 : Nat),
 ∃ (m : Nat),
 Heap.cell
 (Heap.setN
 (Heap.setN h b o
 [int IntKind.i64 n_5])
 b_1 o_1 [int IntKind.i64 n_10])
 b_2 (o_2 + 1) =
 some (slice a n_16 m) ∧
 0 ≤ to ∧
 to < (↑n_16 : Int) ∧
 withAddr a fun (b_3 o_3 : Nat) =>
 ∃ (a : Option Addr),
 ∃ (n_17 : Nat),
 ∃ (m : Nat),
 Heap.cell
 (Heap.setN
 (Heap.setN h b o
 [int IntKind.i64
 n_5])
 b_1 o_1
 [int IntKind.i64
 n_10])
 b_3
 (o_3 +
 Int.toNat to) =
 some
 (slice a n_17 m) ∧
 0 ≤ cur ∧
 cur < (↑n_17 : Int) ∧
 withAddr a
 fun
 (b_4 o_4 :
 Nat) =>
 ∃ (n_18 : Int),
 Heap.cell
 (Heap.setN
 (Heap.setN
 h b o
 [int
 IntKind.i64
 n_5])
 b_1 o_1
 [int
 IntKind.i64
 n_10])
 b_4
 (o_4 +
 Int.toNat
 cur) =
 some
 (int
 IntKind.i64
 n_18) ∧
 0 ≤ cur ∧
 cur <
 (↑n_17 :
 Int) ∧
 withAddr a
 fun
 (b_5
 o_5 :
 Nat) =>
 Heap.canSt
 (Heap.setN
 (Heap.setN
 h
 b
 o
 [int
 IntKind.i64
 n_5])
 b_1
 o_1
 [int
 IntKind.i64
 n_10])
 b_5
 (o_5 +
 Int.toNat
 cur)
 1 ∧
 withAddr
 k'
 fun
 (b_6
 o_6 :
 Nat) =>
 ∃ (a
 :
 Option
 Addr),
 ∃
 (n_19
 :
 Nat),
 ∃
 (m
 :
 Nat),
 Heap.cell
 (Heap.setN
 (Heap.setN
 (Heap.setN
 h
 b
 o
 [int
 IntKind.i64
 n_5])
 b_1
 o_1
 [int
 IntKind.i64
 n_10])
 b_5
 (o_5 +
 Int.toNat
 cur)
 [int
 IntKind.i64
 (IntKind.wrap
 IntKind.i64
 (n_18 +
 amount))])
 b_6
 (o_6 +
 1) =
 some
 (slice
 a
 n_19
 m) ∧
 0 ≤
 from' ∧
 from' <
 (↑n_19 :
 Int) ∧
 withAddr
 a
 fun
 (b_7
 o_7 :
 Nat) =>
 ∃
 (a
 :
 Option
 Addr),
 ∃
 (n_20
 :
 Nat),
 ∃
 (m
 :
 Nat),
 Heap.cell
 (Heap.setN
 (Heap.setN
 (Heap.setN
 h
 b
 o
 [int
 IntKind.i64
 n_5])
 b_1
 o_1
 [int
 IntKind.i64
 n_10])
 b_5
 (o_5 +
 Int.toNat
 cur)
 [int
 IntKind.i64
 (IntKind.wrap
 IntKind.i64
 (n_18 +
 amount))])
 b_7
 (o_7 +
 Int.toNat
 from') =
 some
 (slice
 a
 n_20
 m) ∧
 0 ≤
 cur ∧
 cur <
 (↑n_20 :
 Int) ∧
 withAddr
 a
 fun
 (b_8
 o_8 :
 Nat) =>
 ∃
 (n_21
 :
 Int),
 Heap.cell
 (Heap.setN
 (Heap.setN
 (Heap.setN
 h
 b
 o
 [int
 IntKind.i64
 n_5])
 b_1
 o_1
 [int
 IntKind.i64
 n_10])
 b_5
 (o_5 +
 Int.toNat
 cur)
 [int
 IntKind.i64
 (IntKind.wrap
 IntKind.i64
 (n_18 +
 amount))])
 b_8
 (o_8 +
 Int.toNat
 cur) =
 some
 (int
 IntKind.i64
 n_21) ∧
 0 ≤
 cur ∧
 cur <
 (↑n_20 :
 Int) ∧
 withAddr
 a
 fun
 (b_9
 o_9 :
 Nat) =>
 Heap.canSt
 (Heap.setN
 (Heap.setN
 (Heap.setN
 h
 b
 o
 [int
 IntKind.i64
 n_5])
 b_1
 o_1
 [int
 IntKind.i64
 n_10])
 b_5
 (o_5 +
 Int.toNat
 cur)
 [int
 IntKind.i64
 (IntKind.wrap
 IntKind.i64
 (n_18 +
 amount))])
 b_9
 (o_9 +
 Int.toNat
 cur)
 1 ∧
 withAddr
 k'
 fun
 (b_10
 o_10 :
 Nat) =>
 ∃
 (a
 :
 Option
 Addr),
 ∃
 (n_22
 :
 Nat),
 ∃
 (m
 :
 Nat),
 Heap.cell
 (Heap.setN
 (Heap.setN
 (Heap.setN
 (Heap.setN
 h
 b
 o
 [int
 IntKind.i64
 n_5])
 b_1
 o_1
 [int
 IntKind.i64
 n_10])
 b_5
 (o_5 +
 Int.toNat
 cur)
 [int
 IntKind.i64
 (IntKind.wrap
 IntKind.i64
 (n_18 +
 amount))])
 b_9
 (o_9 +
 Int.toNat
 cur)
 [int
 IntKind.i64
 (IntKind.wrap
 IntKind.i64
 (n_21 -
 amount))])
 b_10
 (o_10 +
 2) =
 some
 (slice
 a
 n_22
 m) ∧
 newB
 (Heap.setN
 (Heap.setN
 (Heap.setN
 (Heap.setN
 h
 b
 o
 [int
 IntKind.i64
 n_5])
 b_1
 o_1
 [int
 IntKind.i64
 n_10])
 b_5
 (o_5 +
 Int.toNat
 cur)
 [int
 IntKind.i64
 (IntKind.wrap
 IntKind.i64
 (n_18 +
 amount))])
 b_9
 (o_9 +
 Int.toNat
 cur)
 [int
 IntKind.i64
 (IntKind.wrap
 IntKind.i64
 (n_21 -
 amount))])
 [int
 IntKind.i64
 from',
 int
 IntKind.i64
 to,
 int
 IntKind.i64
 cur,
 int
 IntKind.i64
 amount,
 int
 IntKind.i64
 n]
 41
 fun
 (r :
 Nat)
 (h :
 Heap) =>
 AppA
 [int
 IntKind.i64
 0,
 int
 IntKind.i64
 0,
 int
 IntKind.i64
 0,
 int
 IntKind.i64
 0,
 int
 IntKind.i64
 0]
 41
 h
 a
 n_22
 m
 1
 (some
 {
 block :=
 r,
 off :=
 0 })
 fun
 (ap :
 Option
 Addr)
 (cp :
 Nat)
 (h :
 Heap) =>
 withAddr
 k'
 fun
 (b
 o :
 Nat) =>
 Heap.canSt
 h
 b
 (o +
 2)
 1 ∧
 Ret
 (Heap.setN
 h
 b
 (o +
 2)
 [slice
 ap
 (n_22 +
 1)
 cp])
 K
 (int
 IntKind.i64
 0))))
theorem F_pinout_maker_one (k' : Option Addr) (from' : Int) (to : Int) (cur : Int) (amount : Int) (h : Heap) (K : Value → Heap → Prop) (k : F_pinout_maker_oneT k' from' to cur amount h K) : CallA Try.prog fn_pinout_maker_one [pointer k', int IntKind.i64 from', int IntKind.i64 to, int IntKind.i64 cur, int IntKind.i64 amount] h K :=
 CallA.of_ev (cs := []) Try.func103 (by kernel_rfl) (fun _ _ => Try.call103 _ _) mixed (by kernel_rfl) (by kernel_rfl) k
def L_ref14_Same_0 (a : Option Addr) (an : Nat) (ac : Nat) (b : Option Addr) (bn : Nat) (bc : Nat) (i : Int) (h : Heap) (K : Value → Heap → Prop) : Prop :=
 LoopAt Try.prog Try.f18 18 (loopK Try.f18 0) (sp 26 [(0, slice a an ac), (1, slice b bn bc), (5, int IntKind.i64 i)]) h K
def L_ref14_Same_0T (a : Option Addr) (an : Nat) (ac : Nat) (b : Option Addr) (bn : Nat) (bc : Nat) (i : Int) (h : Heap) (K : Value → Heap → Prop) : Prop :=
 Br (decide (i < (↑an : Int)))
 (0 ≤ i ∧
 i < (↑an : Int) ∧
 withAddr a fun (b_1 o : Nat) =>
 ∃ (n : Int),
 Heap.cell h b_1 (o + Int.toNat i * 5) = some (int IntKind.i64 n) ∧
 ∃ (n_1 : Int),
 Heap.cell h b_1 (o + Int.toNat i * 5 + 1) = some (int IntKind.i64 n_1) ∧
 ∃ (n_2 : Int),
 Heap.cell h b_1 (o + Int.toNat i * 5 + 2) = some (int IntKind.i64 n_2) ∧
 ∃ (n_3 : Int),
 Heap.cell h b_1 (o + Int.toNat i * 5 + 3) = some (int IntKind.i64 n_3) ∧
 ∃ (n_4 : Int),
 Heap.cell h b_1 (o + Int.toNat i * 5 + 4) = some (int IntKind.i64 n_4) ∧
 0 ≤ i ∧
 i < (↑bn : Int) ∧
 withAddr b fun (b_2 o : Nat) =>
 ∃ (n_5 : Int),
 Heap.cell h b_2 (o + Int.toNat i * 5) = some (int IntKind.i64 n_5) ∧
 ∃ (n_6 : Int),
 Heap.cell h b_2 (o + Int.toNat i * 5 + 1) = some (int IntKind.i64 n_6) ∧
 ∃ (n_7 : Int),
 Heap.cell h b_2 (o + Int.toNat i * 5 + 2) = some (int IntKind.i64 n_7) ∧
 ∃ (n_8 : Int),
 Heap.cell h b_2 (o + Int.toNat i * 5 + 3) = some (int IntKind.i64 n_8) ∧
 ∃ (n_9 : Int),
 Heap.cell h b_2 (o + Int.toNat i * 5 + 4) = some (int IntKind.i64 n_9) ∧
 Br (!(n == n_5 && (n_1 == n_6 && (n_2 == n_7 && (n_3 == n_8 && (n_4 == n_9 && true)))))) (Ret h K (Value.bool false))
 (L_ref14_Same_0 a an ac b bn bc (IntKind.wrap IntKind.i64 (i + 1)) h K))
 (Ret h K (Value.bool true))
theorem L_ref14_Same_0r (a : Option Addr) (an : Nat) (ac : Nat) (b : Option Addr) (bn : Nat) (bc : Nat) (i : Int) (h : Heap) (K : Value → Heap → Prop) (k : L_ref14_Same_0T a an ac b bn bc i h K) : L_ref14_Same_0 a an ac b bn bc i h K :=
 LoopAt.of_ev (cs := []) Try.func18 mixed (fun junk => by kernel_rfl) k
def F_ref14_SameT (a : Option Addr) (an : Nat) (ac : Nat) (b : Option Addr) (bn : Nat) (bc : Nat) (h : Heap) (K : Value → Heap → Prop) : Prop :=
 Br ((↑an : Int) != (↑bn : Int)) (Ret h K (Value.bool false)) (L_ref14_Same_0 a an ac b bn bc 0 h K)
theorem F_ref14_Same (a : Option Addr) (an : Nat) (ac : Nat) (b : Option Addr) (bn : Nat) (bc : Nat) (h : Heap) (K : Value → Heap → Prop) (k : F_ref14_SameT a an ac b bn bc h K) : CallA Try.prog fn_ref14_Same [slice a an ac, slice b bn bc] h K :=
 CallA.of_ev (cs := []) Try.func18 (by kernel_rfl) (fun _ _ => Try.call18 _ _) mixed (by kernel_rfl) (by kernel_rfl) k
def L_law14_own_0 (out : Option Addr) (outn : Nat) (outc : Nat) (t6 : Option Addr) (t6n : Nat) (t6c : Nat) (t7 : Int) (t8 : Int) (h : Heap) (K : Value → Heap → Prop) : Prop :=
 LoopAt Try.prog Try.f19 19 (loopK Try.f19 0) (sp 18 [(3, slice out outn outc), (6, slice t6 t6n t6c), (7, int IntKind.i64 t7), (8, int IntKind.i64 t8)]) h K
def L_law14_own_0T (out : Option Addr) (outn : Nat) (outc : Nat) (t6 : Option Addr) (t6n : Nat) (t6c : Nat) (t7 : Int) (t8 : Int) (h : Heap) (K : Value → Heap → Prop) : Prop :=
 Br (decide (t8 < t7))
 (0 ≤ t8 ∧
 t8 < (↑t6n : Int) ∧
 withAddr t6 fun (b o : Nat) =>
 ∃ (n : Int),
 Heap.cell h b (o + Int.toNat t8 * 5) = some (int IntKind.i64 n) ∧
 ∃ (n_1 : Int),
 Heap.cell h b (o + Int.toNat t8 * 5 + 1) = some (int IntKind.i64 n_1) ∧
 ∃ (n_2 : Int),
 Heap.cell h b (o + Int.toNat t8 * 5 + 2) = some (int IntKind.i64 n_2) ∧
 ∃ (n_3 : Int),
 Heap.cell h b (o + Int.toNat t8 * 5 + 3) = some (int IntKind.i64 n_3) ∧
 ∃ (n_4 : Int),
 Heap.cell h b (o + Int.toNat t8 * 5 + 4) = some (int IntKind.i64 n_4) ∧
 newB h [int IntKind.i64 0, int IntKind.i64 0, int IntKind.i64 0, int IntKind.i64 0, int IntKind.i64 0] 41 fun (r : Nat) (h : Heap) =>
 Heap.canSt h r 0 5 ∧
 ∃ (n_5 : Int),
 Heap.cell (Heap.setN h r 0 [int IntKind.i64 n, int IntKind.i64 n_1, int IntKind.i64 n_2, int IntKind.i64 n_3, int IntKind.i64 n_4]) r 0 = some (int IntKind.i64 n_5) ∧
 ∃ (n_6 : Int),
 Heap.cell (Heap.setN h r 0 [int IntKind.i64 n, int IntKind.i64 n_1, int IntKind.i64 n_2, int IntKind.i64 n_3, int IntKind.i64 n_4]) r 1 = some (int IntKind.i64 n_6) ∧
 ∃ (n_7 : Int),
 Heap.cell (Heap.setN h r 0 [int IntKind.i64 n, int IntKind.i64 n_1, int IntKind.i64 n_2, int IntKind.i64 n_3, int IntKind.i64 n_4]) r 2 = some (int IntKind.i64 n_7) ∧
 ∃ (n_8 : Int),
 Heap.cell (Heap.setN h r 0 [int IntKind.i64 n, int IntKind.i64 n_1, int IntKind.i64 n_2, int IntKind.i64 n_3, int IntKind.i64 n_4]) r 3 = some (int IntKind.i64 n_8) ∧
 ∃ (n_9 : Int),
 Heap.cell (Heap.setN h r 0 [int IntKind.i64 n, int IntKind.i64 n_1, int IntKind.i64 n_2, int IntKind.i64 n_3, int IntKind.i64 n_4]) r 4 = some (int IntKind.i64 n_9) ∧
 newB (Heap.setN h r 0 [int IntKind.i64 n, int IntKind.i64 n_1, int IntKind.i64 n_2, int IntKind.i64 n_3, int IntKind.i64 n_4])
 [int IntKind.i64 n_5, int IntKind.i64 n_6, int IntKind.i64 n_7, int IntKind.i64 n_8, int IntKind.i64 n_9] 123 fun (r : Nat) (h : Heap) =>
 AppA [int IntKind.i64 0, int IntKind.i64 0, int IntKind.i64 0, int IntKind.i64 0, int IntKind.i64 0] 123 h out outn outc 1 (some { block := r, off := 0 })
 fun (ap : Option Addr) (cp : Nat) (h : Heap) => L_law14_own_0 ap (outn + 1) cp t6 t6n t6c t7 (IntKind.wrap IntKind.i64 (t8 + 1)) h K)
 (Ret h K (slice out outn outc))
theorem L_law14_own_0r (out : Option Addr) (outn : Nat) (outc : Nat) (t6 : Option Addr) (t6n : Nat) (t6c : Nat) (t7 : Int) (t8 : Int) (h : Heap) (K : Value → Heap → Prop) (k : L_law14_own_0T out outn outc t6 t6n t6c t7 t8 h K) : L_law14_own_0 out outn outc t6 t6n t6c t7 t8 h K :=
 LoopAt.of_ev (cs := []) Try.func19 mixed (fun junk => by kernel_rfl) k
def F_law14_ownT (l : Option Addr) (ln : Nat) (lc : Nat) (h : Heap) (K : Value → Heap → Prop) : Prop :=
 L_law14_own_0 none 0 0 l ln lc (↑ln : Int) 0 h K
theorem F_law14_own (l : Option Addr) (ln : Nat) (lc : Nat) (h : Heap) (K : Value → Heap → Prop) (k : F_law14_ownT l ln lc h K) : CallA Try.prog fn_law14_own [slice l ln lc] h K :=
 CallA.of_ev (cs := []) Try.func19 (by kernel_rfl) (fun _ _ => Try.call19 _ _) mixed (by kernel_rfl) (by kernel_rfl) k
def L_ref02_Same_0 (a : Option Addr) (an : Nat) (ac : Nat) (b : Option Addr) (bn : Nat) (bc : Nat) (i : Int) (h : Heap) (K : Value → Heap → Prop) : Prop :=
 LoopAt Try.prog Try.f20 20 (loopK Try.f20 0) (sp 26 [(0, slice a an ac), (1, slice b bn bc), (5, int IntKind.i64 i)]) h K
def L_ref02_Same_0T (a : Option Addr) (an : Nat) (ac : Nat) (b : Option Addr) (bn : Nat) (bc : Nat) (i : Int) (h : Heap) (K : Value → Heap → Prop) : Prop :=
 Br (decide (i < (↑an : Int)))
 (0 ≤ i ∧
 i < (↑an : Int) ∧
 withAddr a fun (b_1 o : Nat) =>
 ∃ (n : Int),
 Heap.cell h b_1 (o + Int.toNat i) = some (int IntKind.i64 n) ∧
 0 ≤ i ∧
 i < (↑bn : Int) ∧
 withAddr b fun (b_2 o : Nat) =>
 ∃ (n_1 : Int), Heap.cell h b_2 (o + Int.toNat i) = some (int IntKind.i64 n_1) ∧ Br (n != n_1) (Ret h K (Value.bool false)) (L_ref02_Same_0 a an ac b bn bc (IntKind.wrap IntKind.i64 (i + 1)) h K))
 (Ret h K (Value.bool true))
theorem L_ref02_Same_0r (a : Option Addr) (an : Nat) (ac : Nat) (b : Option Addr) (bn : Nat) (bc : Nat) (i : Int) (h : Heap) (K : Value → Heap → Prop) (k : L_ref02_Same_0T a an ac b bn bc i h K) : L_ref02_Same_0 a an ac b bn bc i h K :=
 LoopAt.of_ev (cs := []) Try.func20 mixed (fun junk => by kernel_rfl) k
def F_ref02_SameT (a : Option Addr) (an : Nat) (ac : Nat) (b : Option Addr) (bn : Nat) (bc : Nat) (h : Heap) (K : Value → Heap → Prop) : Prop :=
 Br ((↑an : Int) != (↑bn : Int)) (Ret h K (Value.bool false)) (L_ref02_Same_0 a an ac b bn bc 0 h K)
theorem F_ref02_Same (a : Option Addr) (an : Nat) (ac : Nat) (b : Option Addr) (bn : Nat) (bc : Nat) (h : Heap) (K : Value → Heap → Prop) (k : F_ref02_SameT a an ac b bn bc h K) : CallA Try.prog fn_ref02_Same [slice a an ac, slice b bn bc] h K :=
 CallA.of_ev (cs := []) Try.func20 (by kernel_rfl) (fun _ _ => Try.call20 _ _) mixed (by kernel_rfl) (by kernel_rfl) k
def L_law14_total_0 (net : Option Addr) (netn : Nat) (netc : Nat) (cur : Int) (of : Option Addr) (ofn : Nat) (ofc : Nat) (t9 : Int) (t10 : Int) (h : Heap) (K : Value → Heap → Prop) : Prop :=
 LoopAt Try.prog Try.f21 21 (loopK Try.f21 0) (sp 28 [(0, slice net netn netc), (1, int IntKind.i64 cur), (6, slice of ofn ofc), (9, int IntKind.i64 t9), (10, int IntKind.i64 t10)]) h K
def L_law14_total_0T (net : Option Addr) (netn : Nat) (netc : Nat) (cur : Int) (of : Option Addr) (ofn : Nat) (ofc : Nat) (t9 : Int) (t10 : Int) (h : Heap) (K : Value → Heap → Prop) : Prop :=
 Br (decide (t10 < t9))
 (0 ≤ t10 ∧
 t10 < (↑netn : Int) ∧
 withAddr net fun (b o : Nat) =>
 ∃ (a : Option Addr),
 ∃ (n : Nat),
 ∃ (m : Nat),
 Heap.cell h b (o + Int.toNat t10) = some (slice a n m) ∧
 0 ≤ cur ∧
 cur < (↑n : Int) ∧
 withAddr a fun (b o : Nat) =>
 ∃ (n : Int),
 Heap.cell h b (o + Int.toNat cur) = some (int IntKind.i64 n) ∧
 newB h [int IntKind.i64 n] 2 fun (r : Nat) (h : Heap) =>
 AppA [int IntKind.i64 0] 2 h of ofn ofc 1 (some { block := r, off := 0 }) fun (ap : Option Addr) (cp : Nat) (h : Heap) =>
 L_law14_total_0 net netn netc cur ap (ofn + 1) cp t9 (IntKind.wrap IntKind.i64 (t10 + 1)) h K)
 (CallA Try.prog fn_money_Sum [slice of ofn ofc] h fun (v : Value) (h : Heap) => ∃ (n : Int), ∃ (n_1 : Int), v = tuple #[int IntKind.i64 n, int IntKind.i64 n_1] ∧ Ret h K (tuple #[int IntKind.i64 n, int IntKind.i64 n_1]))
theorem L_law14_total_0r (net : Option Addr) (netn : Nat) (netc : Nat) (cur : Int) (of : Option Addr) (ofn : Nat) (ofc : Nat) (t9 : Int) (t10 : Int) (h : Heap) (K : Value → Heap → Prop) (k : L_law14_total_0T net netn netc cur of ofn ofc t9 t10 h K) : L_law14_total_0 net netn netc cur of ofn ofc t9 t10 h K :=
 LoopAt.of_ev (cs := []) Try.func21 mixed (fun junk => by kernel_rfl) k
def F_law14_totalT (net : Option Addr) (netn : Nat) (netc : Nat) (cur : Int) (h : Heap) (K : Value → Heap → Prop) : Prop :=
 L_law14_total_0 net netn netc cur none 0 0 (↑netn : Int) 0 h K
theorem F_law14_total (net : Option Addr) (netn : Nat) (netc : Nat) (cur : Int) (h : Heap) (K : Value → Heap → Prop) (k : F_law14_totalT net netn netc cur h K) : CallA Try.prog fn_law14_total [slice net netn netc, int IntKind.i64 cur] h K :=
 CallA.of_ev (cs := []) Try.func21 (by kernel_rfl) (fun _ _ => Try.call21 _ _) mixed (by kernel_rfl) (by kernel_rfl) k
def L_law14_large_0 (t : Option Addr) (tn : Nat) (tc : Nat) (net : Option Addr) (netn : Nat) (netc : Nat) (t7 : Int) (t8 : Int) (h : Heap) (K : Value → Heap → Prop) : Prop :=
 LoopAt Try.prog Try.f15 15 (loopK Try.f15 0) (sp 26 [(0, slice t tn tc), (1, slice net netn netc), (7, int IntKind.i64 t7), (8, int IntKind.i64 t8)]) h K
def L_law14_large_0T (t : Option Addr) (tn : Nat) (tc : Nat) (net : Option Addr) (netn : Nat) (netc : Nat) (t7 : Int) (t8 : Int) (h : Heap) (K : Value → Heap → Prop) : Prop :=
 Br (decide (t8 < t7))
 (0 ≤ t8 ∧
 t8 < (↑netn : Int) ∧
 withAddr net fun (b o : Nat) =>
 ∃ (a : Option Addr),
 ∃ (n : Nat),
 ∃ (m : Nat), Heap.cell h b (o + Int.toNat t8) = some (slice a n m) ∧ Br (decide ((↑n : Int) > 20)) (Ret h K (Value.bool true)) (L_law14_large_0 t tn tc net netn netc t7 (IntKind.wrap IntKind.i64 (t8 + 1)) h K))
 (Br (decide ((↑netn : Int) > 40)) (Ret h K (Value.bool true)) (Ret h K (Value.bool (decide ((↑tn : Int) > 20)))))
theorem L_law14_large_0r (t : Option Addr) (tn : Nat) (tc : Nat) (net : Option Addr) (netn : Nat) (netc : Nat) (t7 : Int) (t8 : Int) (h : Heap) (K : Value → Heap → Prop) (k : L_law14_large_0T t tn tc net netn netc t7 t8 h K) : L_law14_large_0 t tn tc net netn netc t7 t8 h K :=
 LoopAt.of_ev (cs := []) Try.func15 mixed (fun junk => by kernel_rfl) k
def F_law14_largeT (t : Option Addr) (tn : Nat) (tc : Nat) (net : Option Addr) (netn : Nat) (netc : Nat) (h : Heap) (K : Value → Heap → Prop) : Prop :=
 L_law14_large_0 t tn tc net netn netc (↑netn : Int) 0 h K
theorem F_law14_large (t : Option Addr) (tn : Nat) (tc : Nat) (net : Option Addr) (netn : Nat) (netc : Nat) (h : Heap) (K : Value → Heap → Prop) (k : F_law14_largeT t tn tc net netn netc h K) : CallA Try.prog fn_law14_large [slice t tn tc, slice net netn netc] h K :=
 CallA.of_ev (cs := []) Try.func15 (by kernel_rfl) (fun _ _ => Try.call15 _ _) mixed (by kernel_rfl) (by kernel_rfl) k
def F_law14_awakeT (h : Heap) (K : Value → Heap → Prop) : Prop :=
 newB h [string { data := #[69, 85, 82] }, int IntKind.i64 10000, int IntKind.i64 0, string { data := #[85, 83, 68] }, int IntKind.i64 12500, int IntKind.i64 0] 106 fun (r : Nat) (h : Heap) =>
 newB h [int IntKind.i64 0, int IntKind.i64 (-80)] 2 fun (r_1 : Nat) (h : Heap) =>
 newB h [int IntKind.i64 0, int IntKind.i64 80] 2 fun (r_2 : Nat) (h : Heap) =>
 newB h [slice (some { block := r_1, off := 0 }) 2 2, slice (some { block := r_2, off := 0 }) 2 2] 36 fun (r_3 : Nat) (h : Heap) =>
 CallA Try.prog fn_inout_Propose [slice (some { block := r, off := 0 }) 2 2, slice (some { block := r_3, off := 0 }) 2 2, int IntKind.i64 1] h fun (v : Value) (h : Heap) =>
 ∃ (a : Option Addr),
 ∃ (n : Nat),
 ∃ (m : Nat),
 ∃ (a_1 : Option Addr),
 ∃ (n_1 : Nat),
 ∃ (m_1 : Nat),
 ∃ (n_2 : Int),
 v = tuple #[slice a n m, slice a_1 n_1 m_1, int IntKind.i64 n_2] ∧
 CallA Try.prog fn_inout_Propose [slice (some { block := r, off := 0 }) 2 2, slice none 0 0, int IntKind.i64 0] h fun (v : Value) (h : Heap) =>
 ∃ (a_2 : Option Addr),
 ∃ (n_3 : Nat),
 ∃ (m : Nat),
 ∃ (a_3 : Option Addr),
 ∃ (n_4 : Nat),
 ∃ (m_2 : Nat),
 ∃ (n_5 : Int),
 v = tuple #[slice a_2 n_3 m, slice a_3 n_4 m_2, int IntKind.i64 n_5] ∧
 Br ((↑n : Int) == 1)
 ((0 : Int) ≤ 0 ∧
 0 < (↑n : Int) ∧
 withAddr a fun (b o : Nat) =>
 ∃ (n : Int),
 Heap.cell h b o = some (int IntKind.i64 n) ∧
 ∃ (n_6 : Int),
 Heap.cell h b (o + 1) = some (int IntKind.i64 n_6) ∧
 ∃ (n_7 : Int),
 Heap.cell h b (o + 2) = some (int IntKind.i64 n_7) ∧
 ∃ (n_8 : Int),
 Heap.cell h b (o + 3) = some (int IntKind.i64 n_8) ∧
 ∃ (n_9 : Int),
 Heap.cell h b (o + 4) = some (int IntKind.i64 n_9) ∧
 Br (n == 1 && (n_6 == 0 && (n_7 == 1 && (n_8 == 80 && (n_9 == 100 && true)))))
 (Br ((↑n_1 : Int) == 2)
 ((0 : Int) ≤ 0 ∧
 0 < (↑n_1 : Int) ∧
 withAddr a_1 fun (b o : Nat) =>
 ∃ (a : Option Addr),
 ∃ (n : Nat),
 ∃ (m : Nat),
 Heap.cell h b o = some (slice a n m) ∧
 newB h [int IntKind.i64 (-100), int IntKind.i64 0] 2 fun (r : Nat) (h : Heap) =>
 CallA Try.prog fn_ref02_Same [slice a n m, slice (some { block := r, off := 0 }) 2 2] h fun (v : Value) (h : Heap) =>
 ∃ (b : Bool),
 v = Value.bool b ∧
 Br b
 ((0 : Int) ≤ 1 ∧
 1 < (↑n_1 : Int) ∧
 withAddr a_1 fun (b o : Nat) =>
 ∃ (a : Option Addr),
 ∃ (n : Nat),
 ∃ (m : Nat),
 Heap.cell h b (o + 1) = some (slice a n m) ∧
 newB h [int IntKind.i64 100, int IntKind.i64 0] 2 fun (r : Nat) (h : Heap) =>
 CallA Try.prog fn_ref02_Same [slice a n m, slice (some { block := r, off := 0 }) 2 2] h
 fun (v : Value) (h : Heap) =>
 ∃ (b : Bool),
 v = Value.bool b ∧
 Br b (Br (n_2 == 0) (Ret h K (Value.bool (n_5 == 1))) (Ret h K (Value.bool false)))
 (Ret h K (Value.bool false)))
 (Ret h K (Value.bool false)))
 (Ret h K (Value.bool false)))
 (Ret h K (Value.bool false)))
 (Ret h K (Value.bool false))
theorem F_law14_awake (h : Heap) (K : Value → Heap → Prop) (k : F_law14_awakeT h K) : CallA Try.prog fn_law14_awake [] h K :=
 CallA.of_ev (cs := []) Try.func14 (by kernel_rfl) (fun _ _ => Try.call14 _ _) mixed (by kernel_rfl) (by kernel_rfl) k
def F_slices_ContainsFunc_sint64_sint64_aT (s : Option Addr) (sn : Nat) (sc : Nat) (fr0 : Nat) (h : Heap) (K : Value → Heap → Prop) : Prop :=
 CallA Try.prog fn_slices_IndexFunc_sint64_sint64 [slice s sn sc, func (Fn.func fn_inout_Propose_1) #[] #[pointer (some { block := fr0, off := 0 })]] h fun (v : Value) (h : Heap) => ∃ (n : Int), v = int IntKind.i64 n ∧ Ret h K (Value.bool (decide (n ≥ 0)))
theorem F_slices_ContainsFunc_sint64_sint64_a (s : Option Addr) (sn : Nat) (sc : Nat) (fr0 : Nat) (h : Heap) (K : Value → Heap → Prop) (k : F_slices_ContainsFunc_sint64_sint64_aT s sn sc fr0 h K) : CallA Try.prog fn_slices_ContainsFunc_sint64_sint64 [slice s sn sc, func (Fn.func fn_inout_Propose_1) #[] #[pointer (some { block := fr0, off := 0 })]] h K :=
 CallA.of_ev (cs := []) Try.func65 (by kernel_rfl) (fun _ _ => Try.call65 _ _) mixed (by kernel_rfl) (by kernel_rfl) k
def L_slices_IndexFunc_sint64_sint64_a_0 (s : Option Addr) (sn : Nat) (sc : Nat) (f_0 : Nat) (t7 : Int) (t8 : Int) (h : Heap) (K : Value → Heap → Prop) : Prop :=
 LoopAt Try.prog Try.f101 101 (loopK Try.f101 0) (sp 19 [(0, slice s sn sc), (1, func (Fn.func fn_inout_Propose_1) #[] #[pointer (some { block := f_0, off := 0 })]), (7, int IntKind.i64 t7), (8, int IntKind.i64 t8)]) h K
def L_slices_IndexFunc_sint64_sint64_a_0T (s : Option Addr) (sn : Nat) (sc : Nat) (f_0 : Nat) (t7 : Int) (t8 : Int) (h : Heap) (K : Value → Heap → Prop) : Prop :=
 Br (decide (t8 < t7))
 (0 ≤ t8 ∧
 t8 < (↑sn : Int) ∧
 withAddr s fun (b o : Nat) =>
 ∃ (a : Option Addr),
 ∃ (n : Nat),
 ∃ (m : Nat),
 Heap.cell h b (o + Int.toNat t8) = some (slice a n m) ∧
 CallA Try.prog fn_inout_Propose_1 [slice a n m, pointer (some { block := f_0, off := 0 })] h fun (v : Value) (h : Heap) =>
 ∃ (b : Bool), v = Value.bool b ∧ Br b (Ret h K (int IntKind.i64 t8)) (L_slices_IndexFunc_sint64_sint64_a_0 s sn sc f_0 t7 (IntKind.wrap IntKind.i64 (t8 + 1)) h K))
 (Ret h K (int IntKind.i64 (-1)))
theorem L_slices_IndexFunc_sint64_sint64_a_0r (s : Option Addr) (sn : Nat) (sc : Nat) (f_0 : Nat) (t7 : Int) (t8 : Int) (h : Heap) (K : Value → Heap → Prop) (k : L_slices_IndexFunc_sint64_sint64_a_0T s sn sc f_0 t7 t8 h K) : L_slices_IndexFunc_sint64_sint64_a_0 s sn sc f_0 t7 t8 h K :=
 LoopAt.of_ev (cs := []) Try.func101 mixed (fun junk => by kernel_rfl) k
def F_slices_IndexFunc_sint64_sint64_aT (s : Option Addr) (sn : Nat) (sc : Nat) (fr0 : Nat) (h : Heap) (K : Value → Heap → Prop) : Prop :=
 L_slices_IndexFunc_sint64_sint64_a_0 s sn sc fr0 (↑sn : Int) 0 h K
theorem F_slices_IndexFunc_sint64_sint64_a (s : Option Addr) (sn : Nat) (sc : Nat) (fr0 : Nat) (h : Heap) (K : Value → Heap → Prop) (k : F_slices_IndexFunc_sint64_sint64_aT s sn sc fr0 h K) : CallA Try.prog fn_slices_IndexFunc_sint64_sint64 [slice s sn sc, func (Fn.func fn_inout_Propose_1) #[] #[pointer (some { block := fr0, off := 0 })]] h K :=
 CallA.of_ev (cs := []) Try.func101 (by kernel_rfl) (fun _ _ => Try.call101 _ _) mixed (by kernel_rfl) (by kernel_rfl) k
def F_slices_Clone_int64_int64T (s : Option Addr) (sn : Nat) (sc : Nat) (h : Heap) (K : Value → Heap → Prop) : Prop :=
 Br (Option.isNone s) (Ret h K (slice none 0 0))
 (newB h [] 2 fun (r : Nat) (h : Heap) => AppA [int IntKind.i64 0] 2 h (some { block := r, off := 0 }) 0 0 sn s fun (ap : Option Addr) (cp : Nat) (h : Heap) => Ret h K (slice ap (0 + sn) cp))
theorem F_slices_Clone_int64_int64 (s : Option Addr) (sn : Nat) (sc : Nat) (h : Heap) (K : Value → Heap → Prop) (k : F_slices_Clone_int64_int64T s sn sc h K) : CallA Try.prog fn_slices_Clone_int64_int64 [slice s sn sc] h K :=
 CallA.of_ev (cs := []) Try.func66 (by kernel_rfl) (fun _ _ => Try.call66 _ _) mixed (by kernel_rfl) (by kernel_rfl) k
end Go.Proofs.Ytkcogdmddhkldaa
