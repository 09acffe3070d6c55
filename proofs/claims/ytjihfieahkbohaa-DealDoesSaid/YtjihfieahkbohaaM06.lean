import Derived.Test.YtjihfieahkbohaaM03
namespace Go.Proofs.Ytjihfieahkbohaa
open Go Go.Sy Go.Value
set_option linter.unusedVariables false
set_option maxRecDepth 100000
def L_deal_lay_0 (b : Option Addr) (bn : Nat) (bc : Nat) (n : Int) (i : Int) (h : Heap) (K : Value → Heap → Prop) : Prop :=
 LoopAt Try.prog Try.f35 35 (loopK Try.f35 0) (sp 23 [(0, slice b bn bc), (1, int IntKind.i64 n), (7, int IntKind.i64 i)]) h K
def L_deal_lay_0T (b : Option Addr) (bn : Nat) (bc : Nat) (n : Int) (i : Int) (h : Heap) (K : Value → Heap → Prop) : Prop :=
 Br (decide (i ≥ 0))
 (Br (decide (0 ≤ IntKind.wrap IntKind.i64 (8 * i)))
 (newB h [int IntKind.u8 (IntKind.wrap IntKind.u8 (Int.fdiv n (2 ^ min (Int.toNat (IntKind.wrap IntKind.i64 (8 * i))) 64)))] 5 fun (r : Nat) (h : Heap) =>
 AppA [int IntKind.u8 0] 5 h b bn bc 1 (some { block := r, off := 0 }) fun (ap : Option Addr) (cp : Nat) (h : Heap) => L_deal_lay_0 ap (bn + 1) cp n (IntKind.wrap IntKind.i64 (i - 1)) h K)
 False)
 (Ret h K (slice b bn bc))
theorem L_deal_lay_0r (b : Option Addr) (bn : Nat) (bc : Nat) (n : Int) (i : Int) (h : Heap) (K : Value → Heap → Prop) (k : L_deal_lay_0T b bn bc n i h K) : L_deal_lay_0 b bn bc n i h K :=
 LoopAt.of_ev (cs := []) Try.func35 mixed (fun junk => by kernel_rfl) k
def F_deal_layT (b : Option Addr) (bn : Nat) (bc : Nat) (n : Int) (bytes : Int) (h : Heap) (K : Value → Heap → Prop) : Prop :=
 L_deal_lay_0 b bn bc n (IntKind.wrap IntKind.i64 (bytes - 1)) h K
theorem F_deal_lay (b : Option Addr) (bn : Nat) (bc : Nat) (n : Int) (bytes : Int) (h : Heap) (K : Value → Heap → Prop) (k : F_deal_layT b bn bc n bytes h K) : CallA Try.prog fn_deal_lay [slice b bn bc, int IntKind.i64 n, int IntKind.i64 bytes] h K :=
 CallA.of_ev (cs := []) Try.func35 (by kernel_rfl) (fun _ _ => Try.call35 _ _) mixed (by kernel_rfl) (by kernel_rfl) k
def F_deal_widthsT (h : Heap) (K : Value → Heap → Prop) : Prop := newB h [int IntKind.i64 0, int IntKind.i64 0, int IntKind.i64 0, int IntKind.i64 0, int IntKind.i64 0, int IntKind.i64 0, int IntKind.i64 0, int IntKind.i64 0, int IntKind.i64 0, int IntKind.i64 0] 80 fun (r : Nat) (h : Heap) => Heap.canSt h r 0 10 ∧ LdJ10 (Heap.setN h r 0 [int IntKind.i64 4, int IntKind.i64 1, int IntKind.i64 1, int IntKind.i64 1, int IntKind.i64 1, int IntKind.i64 8, int IntKind.i64 8, int IntKind.i64 1, int IntKind.i64 1, int IntKind.i64 2]) r 0 fun n n_1 n_2 n_3 n_4 n_5 n_6 n_7 n_8 n_9 => Ret (Heap.setN h r 0 [int IntKind.i64 4, int IntKind.i64 1, int IntKind.i64 1, int IntKind.i64 1, int IntKind.i64 1, int IntKind.i64 8, int IntKind.i64 8, int IntKind.i64 1, int IntKind.i64 1, int IntKind.i64 2]) K (agg #[int IntKind.i64 n, int IntKind.i64 n_1, int IntKind.i64 n_2, int IntKind.i64 n_3, int IntKind.i64 n_4, int IntKind.i64 n_5, int IntKind.i64 n_6, int IntKind.i64 n_7, int IntKind.i64 n_8, int IntKind.i64 n_9])
theorem F_deal_widths (h : Heap) (K : Value → Heap → Prop) (k : F_deal_widthsT h K) : CallA Try.prog fn_deal_widths [] h K :=
 CallA.of_ev (cs := []) Try.func37 (by kernel_rfl) (fun _ _ => Try.call37 _ _) mixed (by kernel_rfl) (by kernel_rfl) k
def F_deal_entry_numbersT (x_0 : Int) (x_1 : Int) (x_2 : Int) (x_3 : Int) (x_4 : Int) (x_5 : Int) (x_6 : Int) (x_7 : Int) (x_8 : Int) (x_9 : Int) (h : Heap) (K : Value → Heap → Prop) : Prop := newB h [int IntKind.i64 x_0, int IntKind.i64 x_1, int IntKind.i64 x_2, int IntKind.i64 x_3, int IntKind.i64 x_4, int IntKind.i64 x_5, int IntKind.i64 x_6, int IntKind.i64 x_7, int IntKind.i64 x_8, int IntKind.i64 x_9] 77 fun (r : Nat) (h : Heap) => newB h [int IntKind.i64 0, int IntKind.i64 0, int IntKind.i64 0, int IntKind.i64 0, int IntKind.i64 0, int IntKind.i64 0, int IntKind.i64 0, int IntKind.i64 0, int IntKind.i64 0, int IntKind.i64 0] 78 fun (r_1 : Nat) (h : Heap) => LdJ10 h r 0 fun n n_1 n_2 n_3 n_4 n_5 n_6 n_7 n_8 n_9 => Heap.canSt h r_1 0 10 ∧ LdJ10 (Heap.setN h r_1 0 [int IntKind.i64 n, int IntKind.i64 n_1, int IntKind.i64 n_2, int IntKind.i64 n_3, int IntKind.i64 n_4, int IntKind.i64 n_5, int IntKind.i64 n_6, int IntKind.i64 n_7, int IntKind.i64 n_8, int IntKind.i64 n_9]) r_1 0 fun n_10 n_11 n_12 n_13 n_14 n_15 n_16 n_17 n_18 n_19 => Ret (Heap.setN h r_1 0 [int IntKind.i64 n, int IntKind.i64 n_1, int IntKind.i64 n_2, int IntKind.i64 n_3, int IntKind.i64 n_4, int IntKind.i64 n_5, int IntKind.i64 n_6, int IntKind.i64 n_7, int IntKind.i64 n_8, int IntKind.i64 n_9]) K (agg #[int IntKind.i64 n_10, int IntKind.i64 n_11, int IntKind.i64 n_12, int IntKind.i64 n_13, int IntKind.i64 n_14, int IntKind.i64 n_15, int IntKind.i64 n_16, int IntKind.i64 n_17, int IntKind.i64 n_18, int IntKind.i64 n_19])
theorem F_deal_entry_numbers (x_0 : Int) (x_1 : Int) (x_2 : Int) (x_3 : Int) (x_4 : Int) (x_5 : Int) (x_6 : Int) (x_7 : Int) (x_8 : Int) (x_9 : Int) (h : Heap) (K : Value → Heap → Prop) (k : F_deal_entry_numbersT x_0 x_1 x_2 x_3 x_4 x_5 x_6 x_7 x_8 x_9 h K) : CallA Try.prog fn_deal_entry_numbers [agg #[int IntKind.i64 x_0, int IntKind.i64 x_1, int IntKind.i64 x_2, int IntKind.i64 x_3, int IntKind.i64 x_4, int IntKind.i64 x_5, int IntKind.i64 x_6, int IntKind.i64 x_7, int IntKind.i64 x_8, int IntKind.i64 x_9]] h K :=
 CallA.of_ev (cs := []) Try.func36 (by kernel_rfl) (fun _ _ => Try.call36 _ _) mixed (by kernel_rfl) (by kernel_rfl) k
def L_pdeal_Book_Text_0 (s : Option Addr) (sn : Nat) (sc : Nat) (t18 : Option Addr) (t18n : Nat) (t18c : Nat) (t19 : Int) (t20 : Int) (h : Heap) (K : Value → Heap → Prop) : Prop :=
 LoopAt Try.prog Try.f12 12 (loopK Try.f12 0) (sp 41 [(3, slice s sn sc), (18, slice t18 t18n t18c), (19, int IntKind.i64 t19), (20, int IntKind.i64 t20)]) h K
def L_pdeal_Book_Text_1 (s : Option Addr) (sn : Nat) (sc : Nat) (n : Nat) (t18 : Option Addr) (t18n : Nat) (t18c : Nat) (t19 : Int) (t20 : Int) (t26_0 : Int) (t26_1 : Int) (t26_2 : Int) (t26_3 : Int) (t26_4 : Int) (t26_5 : Int) (t26_6 : Int) (t26_7 : Int) (t26_8 : Int) (t26_9 : Int) (t27 : Int) (h : Heap) (K : Value → Heap → Prop) : Prop :=
 LoopAt Try.prog Try.f12 12 (loopK Try.f12 1) (sp 41 [(3, slice s sn sc), (6, pointer (some { block := n, off := 0 })), (18, slice t18 t18n t18c), (19, int IntKind.i64 t19), (20, int IntKind.i64 t20),
 (26,
 agg
 #[int IntKind.i64 t26_0, int IntKind.i64 t26_1, int IntKind.i64 t26_2, int IntKind.i64 t26_3, int IntKind.i64 t26_4, int IntKind.i64 t26_5, int IntKind.i64 t26_6, int IntKind.i64 t26_7, int IntKind.i64 t26_8,
 int IntKind.i64 t26_9]),
 (27, int IntKind.i64 t27)]) h K
def L_pdeal_Book_Text_0T (s : Option Addr) (sn : Nat) (sc : Nat) (t18 : Option Addr) (t18n : Nat) (t18c : Nat) (t19 : Int) (t20 : Int) (h : Heap) (K : Value → Heap → Prop) : Prop := Br (decide (t20 < t19)) (0 ≤ t20 ∧ t20 < (↑t18n : Int) ∧ withAddr t18 fun (b o : Nat) => LdJ10 h b (o + Int.toNat t20 * 10) fun n n_1 n_2 n_3 n_4 n_5 n_6 n_7 n_8 n_9 => newB h [int IntKind.i64 0, int IntKind.i64 0, int IntKind.i64 0, int IntKind.i64 0, int IntKind.i64 0, int IntKind.i64 0, int IntKind.i64 0, int IntKind.i64 0, int IntKind.i64 0, int IntKind.i64 0] 77 fun (r : Nat) (h : Heap) => Heap.canSt h r 0 10 ∧ LdJ10 (Heap.setN h r 0 [int IntKind.i64 n, int IntKind.i64 n_1, int IntKind.i64 n_2, int IntKind.i64 n_3, int IntKind.i64 n_4, int IntKind.i64 n_5, int IntKind.i64 n_6, int IntKind.i64 n_7, int IntKind.i64 n_8, int IntKind.i64 n_9]) r 0 fun n_10 n_11 n_12 n_13 n_14 n_15 n_16 n_17 n_18 n_19 => CallA Try.prog 36 [agg #[int IntKind.i64 n_10, int IntKind.i64 n_11, int IntKind.i64 n_12, int IntKind.i64 n_13, int IntKind.i64 n_14, int IntKind.i64 n_15, int IntKind.i64 n_16, int IntKind.i64 n_17, int IntKind.i64 n_18, int IntKind.i64 n_19]] (Heap.setN h r 0 [int IntKind.i64 n, int IntKind.i64 n_1, int IntKind.i64 n_2, int IntKind.i64 n_3, int IntKind.i64 n_4, int IntKind.i64 n_5, int IntKind.i64 n_6, int IntKind.i64 n_7, int IntKind.i64 n_8, int IntKind.i64 n_9]) fun (v : Value) (h : Heap) => ∃ (n : Int), ∃ (n_20 : Int), ∃ (n_21 : Int), ∃ (n_22 : Int), ∃ (n_23 : Int), ∃ (n_24 : Int), ∃ (n_25 : Int), ∃ (n_26 : Int), ∃ (n_27 : Int), ∃ (n_28 : Int), v = agg #[int IntKind.i64 n, int IntKind.i64 n_20, int IntKind.i64 n_21, int IntKind.i64 n_22, int IntKind.i64 n_23, int IntKind.i64 n_24, int IntKind.i64 n_25, int IntKind.i64 n_26, int IntKind.i64 n_27, int IntKind.i64 n_28] ∧ newB h [int IntKind.i64 0, int IntKind.i64 0, int IntKind.i64 0, int IntKind.i64 0, int IntKind.i64 0, int IntKind.i64 0, int IntKind.i64 0, int IntKind.i64 0, int IntKind.i64 0, int IntKind.i64 0] 78 fun (r : Nat) (h : Heap) => Heap.canSt h r 0 10 ∧ CallA Try.prog fn_deal_widths [] (Heap.setN h r 0 [int IntKind.i64 n, int IntKind.i64 n_20, int IntKind.i64 n_21, int IntKind.i64 n_22, int IntKind.i64 n_23, int IntKind.i64 n_24, int IntKind.i64 n_25, int IntKind.i64 n_26, int IntKind.i64 n_27, int IntKind.i64 n_28]) fun (v : Value) (h : Heap) => ∃ (n : Int), ∃ (n_29 : Int), ∃ (n_30 : Int), ∃ (n_31 : Int), ∃ (n_32 : Int), ∃ (n_33 : Int), ∃ (n_34 : Int), ∃ (n_35 : Int), ∃ (n_36 : Int), ∃ (n_37 : Int), v = agg #[int IntKind.i64 n, int IntKind.i64 n_29, int IntKind.i64 n_30, int IntKind.i64 n_31, int IntKind.i64 n_32, int IntKind.i64 n_33, int IntKind.i64 n_34, int IntKind.i64 n_35, int IntKind.i64 n_36, int IntKind.i64 n_37] ∧ L_pdeal_Book_Text_1 s sn sc r t18 t18n t18c t19 t20 n n_29 n_30 n_31 n_32 n_33 n_34 n_35 n_36 n_37 0 h K) (StrA h s sn fun (s : ByteArray) => Ret h K (string s))
theorem L_pdeal_Book_Text_0r (s : Option Addr) (sn : Nat) (sc : Nat) (t18 : Option Addr) (t18n : Nat) (t18c : Nat) (t19 : Int) (t20 : Int) (h : Heap) (K : Value → Heap → Prop) (k : L_pdeal_Book_Text_0T s sn sc t18 t18n t18c t19 t20 h K) : L_pdeal_Book_Text_0 s sn sc t18 t18n t18c t19 t20 h K :=
 LoopAt.of_ev (cs := []) Try.func12 mixed (fun junk => by kernel_rfl) k
def L_pdeal_Book_Text_1T (s : Option Addr) (sn : Nat) (sc : Nat) (n : Nat) (t18 : Option Addr) (t18n : Nat) (t18c : Nat) (t19 : Int) (t20 : Int) (t26_0 : Int) (t26_1 : Int) (t26_2 : Int) (t26_3 : Int) (t26_4 : Int) (t26_5 : Int) (t26_6 : Int) (t26_7 : Int) (t26_8 : Int) (t26_9 : Int) (t27 : Int) (h : Heap) (K : Value → Heap → Prop) : Prop :=
 Br (decide (t27 < 10))
 (0 ≤ t27 ∧
 t27 < 10 ∧
 arrI IntKind.i64
 [int IntKind.i64 t26_0, int IntKind.i64 t26_1, int IntKind.i64 t26_2, int IntKind.i64 t26_3, int IntKind.i64 t26_4, int IntKind.i64 t26_5, int IntKind.i64 t26_6, int IntKind.i64 t26_7, int IntKind.i64 t26_8,
 int IntKind.i64 t26_9]
 (Int.toNat t27) fun (n_1 : Int) =>
 Br (decide (0 ≤ t27))
 (Br (decide (t27 < 10))
 (∃ (n_2 : Int),
 Heap.cell h n (0 + Int.toNat t27) = some (int IntKind.i64 n_2) ∧
 CallA Try.prog fn_deal_lay [slice s sn sc, int IntKind.i64 n_2, int IntKind.i64 n_1] h fun (v : Value) (h : Heap) =>
 ∃ (a : Option Addr),
 ∃ (n_3 : Nat), ∃ (m : Nat), v = slice a n_3 m ∧ L_pdeal_Book_Text_1 a n_3 m n t18 t18n t18c t19 t20 t26_0 t26_1 t26_2 t26_3 t26_4 t26_5 t26_6 t26_7 t26_8 t26_9 (IntKind.wrap IntKind.i64 (t27 + 1)) h K)
 False)
 False)
 (L_pdeal_Book_Text_0 s sn sc t18 t18n t18c t19 (IntKind.wrap IntKind.i64 (t20 + 1)) h K)
theorem L_pdeal_Book_Text_1r (s : Option Addr) (sn : Nat) (sc : Nat) (n : Nat) (t18 : Option Addr) (t18n : Nat) (t18c : Nat) (t19 : Int) (t20 : Int) (t26_0 : Int) (t26_1 : Int) (t26_2 : Int) (t26_3 : Int) (t26_4 : Int) (t26_5 : Int) (t26_6 : Int) (t26_7 : Int) (t26_8 : Int) (t26_9 : Int) (t27 : Int) (h : Heap) (K : Value → Heap → Prop) (k : L_pdeal_Book_Text_1T s sn sc n t18 t18n t18c t19 t20 t26_0 t26_1 t26_2 t26_3 t26_4 t26_5 t26_6 t26_7 t26_8 t26_9 t27 h K) : L_pdeal_Book_Text_1 s sn sc n t18 t18n t18c t19 t20 t26_0 t26_1 t26_2 t26_3 t26_4 t26_5 t26_6 t26_7 t26_8 t26_9 t27 h K :=
 LoopAt.of_ev (cs := []) Try.func12 mixed (fun junk => by kernel_rfl) k
def F_pdeal_Book_TextT (b : Option Addr) (h : Heap) (K : Value → Heap → Prop) : Prop :=
 withAddr b fun (b_1 o : Nat) =>
 ∃ (a : Option Addr),
 ∃ (n : Nat),
 ∃ (m : Nat),
 Heap.cell h b_1 (o + 2) = some (slice a n m) ∧
 CallA Try.prog fn_deal_lay [slice none 0 0, int IntKind.i64 (↑n : Int), int IntKind.i64 2] h fun (v : Value) (h : Heap) =>
 ∃ (a : Option Addr),
 ∃ (n : Nat),
 ∃ (m : Nat),
 v = slice a n m ∧ withAddr b fun (b o : Nat) => ∃ (a_1 : Option Addr), ∃ (n_1 : Nat), ∃ (m_1 : Nat), Heap.cell h b (o + 2) = some (slice a_1 n_1 m_1) ∧ L_pdeal_Book_Text_0 a n m a_1 n_1 m_1 (↑n_1 : Int) 0 h K
theorem F_pdeal_Book_Text (b : Option Addr) (h : Heap) (K : Value → Heap → Prop) (k : F_pdeal_Book_TextT b h K) : CallA Try.prog fn_pdeal_Book_Text [pointer b] h K :=
 CallA.of_ev (cs := []) Try.func12 (by kernel_rfl) (fun _ _ => Try.call12 _ _) mixed (by kernel_rfl) (by kernel_rfl) k
def L_deal_take_0 (n : Int) (t7 : Option Addr) (t7n : Nat) (t7c : Nat) (t8 : Int) (t9 : Int) (h : Heap) (K : Value → Heap → Prop) : Prop :=
 LoopAt Try.prog Try.f43 43 (loopK Try.f43 0) (sp 20 [(3, int IntKind.i64 n), (7, slice t7 t7n t7c), (8, int IntKind.i64 t8), (9, int IntKind.i64 t9)]) h K
def L_deal_take_0T (n : Int) (t7 : Option Addr) (t7n : Nat) (t7c : Nat) (t8 : Int) (t9 : Int) (h : Heap) (K : Value → Heap → Prop) : Prop :=
 Br (decide (t9 < t8))
 (0 ≤ t9 ∧
 t9 < (↑t7n : Int) ∧
 withAddr t7 fun (b o : Nat) =>
 ∃ (n_1 : Int),
 Heap.cell h b (o + Int.toNat t9) = some (int IntKind.u8 n_1) ∧
 L_deal_take_0 (IntKind.wrap IntKind.i64 (↑(BitVec.toNat (BitVec.ofInt 64 (IntKind.wrap IntKind.i64 (n * 256)) ||| BitVec.ofInt 64 (IntKind.wrap IntKind.i64 n_1))) : Int)) t7 t7n t7c t8
 (IntKind.wrap IntKind.i64 (t9 + 1)) h K)
 (Ret h K (int IntKind.i64 n))
theorem L_deal_take_0r (n : Int) (t7 : Option Addr) (t7n : Nat) (t7c : Nat) (t8 : Int) (t9 : Int) (h : Heap) (K : Value → Heap → Prop) (k : L_deal_take_0T n t7 t7n t7c t8 t9 h K) : L_deal_take_0 n t7 t7n t7c t8 t9 h K :=
 LoopAt.of_ev (cs := []) Try.func43 mixed (fun junk => by kernel_rfl) k
def F_deal_takeT (s : ByteArray) (h : Heap) (K : Value → Heap → Prop) : Prop :=
 BytesA s 5 h fun (ap : Option Addr) (cp : Nat) (h : Heap) => L_deal_take_0 0 ap (ByteArray.size s) cp (↑(ByteArray.size s) : Int) 0 h K
theorem F_deal_take (s : ByteArray) (h : Heap) (K : Value → Heap → Prop) (k : F_deal_takeT s h K) : CallA Try.prog fn_deal_take [string s] h K :=
 CallA.of_ev (cs := []) Try.func43 (by kernel_rfl) (fun _ _ => Try.call43 _ _) mixed (by kernel_rfl) (by kernel_rfl) k
def F_deal_entry_couldT (x_0 : Int) (x_1 : Int) (x_2 : Int) (x_3 : Int) (x_4 : Int) (x_5 : Int) (x_6 : Int) (x_7 : Int) (x_8 : Int) (x_9 : Int) (h : Heap) (K : Value → Heap → Prop) : Prop :=
 newB h [int IntKind.i64 x_0, int IntKind.i64 x_1, int IntKind.i64 x_2, int IntKind.i64 x_3, int IntKind.i64 x_4, int IntKind.i64 x_5, int IntKind.i64 x_6, int IntKind.i64 x_7, int IntKind.i64 x_8, int IntKind.i64 x_9] 77
 fun (r : Nat) (h : Heap) =>
 ∃ (n : Int),
 Heap.cell h r 7 = some (int IntKind.i64 n) ∧
 Br (n == 1) (∃ (n : Int), Heap.cell h r 8 = some (int IntKind.i64 n) ∧ Br (n == 0) (∃ (n : Int), Heap.cell h r 9 = some (int IntKind.i64 n) ∧ Ret h K (Value.bool (n == 0))) (Ret h K (Value.bool false)))
 (Br (n == 2)
 (Br (n == 2)
 (∃ (n : Int), Heap.cell h r 8 = some (int IntKind.i64 n) ∧ Br (decide (n < 3)) (∃ (n : Int), Heap.cell h r 9 = some (int IntKind.i64 n) ∧ Ret h K (Value.bool (decide (n > 0)))) (Ret h K (Value.bool false)))
 (Br (n == 4)
 (∃ (n : Int),
 Heap.cell h r 8 = some (int IntKind.i64 n) ∧
 Br (decide (n ≤ 3))
 (∃ (n : Int), Heap.cell h r 9 = some (int IntKind.i64 n) ∧ Br (decide (n > 0)) (Ret h K (Value.bool true)) (∃ (n : Int), Heap.cell h r 8 = some (int IntKind.i64 n) ∧ Ret h K (Value.bool (n == 0))))
 (Ret h K (Value.bool false)))
 (Ret h K (Value.bool false))))
 (Br (n == 3)
 (∃ (n : Int), Heap.cell h r 8 = some (int IntKind.i64 n) ∧ Br (decide (n < 3)) (∃ (n : Int), Heap.cell h r 9 = some (int IntKind.i64 n) ∧ Ret h K (Value.bool (decide (n > 0)))) (Ret h K (Value.bool false)))
 (Br (n == 4)
 (∃ (n : Int),
 Heap.cell h r 8 = some (int IntKind.i64 n) ∧
 Br (decide (n ≤ 3))
 (∃ (n : Int), Heap.cell h r 9 = some (int IntKind.i64 n) ∧ Br (decide (n > 0)) (Ret h K (Value.bool true)) (∃ (n : Int), Heap.cell h r 8 = some (int IntKind.i64 n) ∧ Ret h K (Value.bool (n == 0))))
 (Ret h K (Value.bool false)))
 (Ret h K (Value.bool false)))))
theorem F_deal_entry_could (x_0 : Int) (x_1 : Int) (x_2 : Int) (x_3 : Int) (x_4 : Int) (x_5 : Int) (x_6 : Int) (x_7 : Int) (x_8 : Int) (x_9 : Int) (h : Heap) (K : Value → Heap → Prop) (k : F_deal_entry_couldT x_0 x_1 x_2 x_3 x_4 x_5 x_6 x_7 x_8 x_9 h K) : CallA Try.prog fn_deal_entry_could [agg #[int IntKind.i64 x_0, int IntKind.i64 x_1, int IntKind.i64 x_2, int IntKind.i64 x_3, int IntKind.i64 x_4, int IntKind.i64 x_5, int IntKind.i64 x_6, int IntKind.i64 x_7, int IntKind.i64 x_8, int IntKind.i64 x_9]] h K :=
 CallA.of_ev (cs := []) Try.func45 (by kernel_rfl) (fun _ _ => Try.call45 _ _) mixed (by kernel_rfl) (by kernel_rfl) k
def L_deal_Read_0 (text : ByteArray) (b : Option Addr) (orders : Option Addr) (ordersn : Nat) (ordersc : Nat) (at' : Int) (h : Heap) (K : Value → Heap → Prop) : Prop :=
 LoopAt Try.prog Try.f17 17 (loopK Try.f17 0) (sp 161 [(0, string text), (8, pointer b), (11, slice orders ordersn ordersc), (12, int IntKind.i64 at')]) h K
def L_deal_Read_1 (text : ByteArray) (b : Option Addr) (orders : Option Addr) (ordersn : Nat) (ordersc : Nat) (at' : Int) (n : Nat) (from' : Int) (t53_0 : Int) (t53_1 : Int) (t53_2 : Int) (t53_3 : Int) (t53_4 : Int) (t53_5 : Int) (t53_6 : Int) (t53_7 : Int) (t53_8 : Int) (t53_9 : Int) (t54 : Int) (h : Heap) (K : Value → Heap → Prop) : Prop :=
 LoopAt Try.prog Try.f17 17 (loopK Try.f17 1) (sp 161 [(0, string text), (8, pointer b), (11, slice orders ordersn ordersc), (12, int IntKind.i64 at'), (13, pointer (some { block := n, off := 0 })), (14, int IntKind.i64 from'),
 (53,
 agg
 #[int IntKind.i64 t53_0, int IntKind.i64 t53_1, int IntKind.i64 t53_2, int IntKind.i64 t53_3, int IntKind.i64 t53_4, int IntKind.i64 t53_5, int IntKind.i64 t53_6, int IntKind.i64 t53_7, int IntKind.i64 t53_8,
 int IntKind.i64 t53_9]),
 (54, int IntKind.i64 t54)]) h K
def L_deal_Read_2 (b : Option Addr) (orders : Option Addr) (ordersn : Nat) (ordersc : Nat) (t143 : Option Addr) (t143n : Nat) (t143c : Nat) (t144 : Int) (t145 : Int) (h : Heap) (K : Value → Heap → Prop) : Prop :=
 LoopAt Try.prog Try.f17 17 (loopK Try.f17 2) (sp 161 [(8, pointer b), (11, slice orders ordersn ordersc), (143, slice t143 t143n t143c), (144, int IntKind.i64 t144), (145, int IntKind.i64 t145)]) h K
def L_deal_Read_0T (text : ByteArray) (b : Option Addr) (orders : Option Addr) (ordersn : Nat) (ordersc : Nat) (at' : Int) (h : Heap) (K : Value → Heap → Prop) : Prop :=
 Br (decide (at' < (↑(ByteArray.size text) : Int)))
 (newB h [int IntKind.i64 0, int IntKind.i64 0, int IntKind.i64 0, int IntKind.i64 0, int IntKind.i64 0, int IntKind.i64 0, int IntKind.i64 0, int IntKind.i64 0, int IntKind.i64 0, int IntKind.i64 0] 78
 fun (r : Nat) (h : Heap) =>
 CallA Try.prog fn_deal_widths [] h fun (v : Value) (h : Heap) =>
 ∃ (n : Int),
 ∃ (n_1 : Int),
 ∃ (n_2 : Int),
 ∃ (n_3 : Int),
 ∃ (n_4 : Int),
 ∃ (n_5 : Int),
 ∃ (n_6 : Int),
 ∃ (n_7 : Int),
 ∃ (n_8 : Int),
 ∃ (n_9 : Int),
 v =
 agg
 #[int IntKind.i64 n, int IntKind.i64 n_1, int IntKind.i64 n_2, int IntKind.i64 n_3, int IntKind.i64 n_4, int IntKind.i64 n_5, int IntKind.i64 n_6, int IntKind.i64 n_7, int IntKind.i64 n_8,
 int IntKind.i64 n_9] ∧
 L_deal_Read_1 text b orders ordersn ordersc at' r at' n n_1 n_2 n_3 n_4 n_5 n_6 n_7 n_8 n_9 0 h K)
 (CallA Try.prog fn_slices_Sort_int_int [slice orders ordersn ordersc] h fun (v : Value) (h : Heap) => v = tuple #[] ∧ L_deal_Read_2 b orders ordersn ordersc orders ordersn ordersc (↑ordersn : Int) 0 h K)
theorem L_deal_Read_0r (text : ByteArray) (b : Option Addr) (orders : Option Addr) (ordersn : Nat) (ordersc : Nat) (at' : Int) (h : Heap) (K : Value → Heap → Prop) (k : L_deal_Read_0T text b orders ordersn ordersc at' h K) : L_deal_Read_0 text b orders ordersn ordersc at' h K :=
 LoopAt.of_ev (cs := []) Try.func17 mixed (fun junk => by kernel_rfl) k
def L_deal_Read_1T (text : ByteArray) (b : Option Addr) (orders : Option Addr) (ordersn : Nat) (ordersc : Nat) (at' : Int) (n : Nat) (from' : Int) (t53_0 : Int) (t53_1 : Int) (t53_2 : Int) (t53_3 : Int) (t53_4 : Int) (t53_5 : Int) (t53_6 : Int) (t53_7 : Int) (t53_8 : Int) (t53_9 : Int) (t54 : Int) (h : Heap) (K : Value → Heap → Prop) : Prop := Br (decide (t54 < 10)) (0 ≤ t54 ∧ t54 < 10 ∧ arrI IntKind.i64 [int IntKind.i64 t53_0, int IntKind.i64 t53_1, int IntKind.i64 t53_2, int IntKind.i64 t53_3, int IntKind.i64 t53_4, int IntKind.i64 t53_5, int IntKind.i64 t53_6, int IntKind.i64 t53_7, int IntKind.i64 t53_8, int IntKind.i64 t53_9] (Int.toNat t54) fun (n_1 : Int) => 0 ≤ IntKind.wrap IntKind.i64 (from' + n_1) ∧ IntKind.wrap IntKind.i64 (from' + n_1) ≤ (↑(ByteArray.size text) : Int) ∧ 0 ≤ from' ∧ from' ≤ (↑(Int.toNat (IntKind.wrap IntKind.i64 (from' + n_1))) : Int) ∧ CallA Try.prog fn_deal_take [string (ByteArray.extract text (Int.toNat from') (Int.toNat (IntKind.wrap IntKind.i64 (from' + n_1))))] h fun (v : Value) (h : Heap) => ∃ (n_2 : Int), v = int IntKind.i64 n_2 ∧ Br (decide (0 ≤ t54)) (Br (decide (t54 < 10)) (Heap.canSt h n (0 + Int.toNat t54) 1 ∧ L_deal_Read_1 text b orders ordersn ordersc at' n (IntKind.wrap IntKind.i64 (from' + n_1)) t53_0 t53_1 t53_2 t53_3 t53_4 t53_5 t53_6 t53_7 t53_8 t53_9 (IntKind.wrap IntKind.i64 (t54 + 1)) (Heap.setN h n (0 + Int.toNat t54) [int IntKind.i64 n_2]) K) False) False) (LdJ10 h n 0 fun n_1 n_2 n_3 n_4 n_5 n_6 n_7 n_8 n_9 n_10 => newB h [int IntKind.i64 0, int IntKind.i64 0, int IntKind.i64 0, int IntKind.i64 0, int IntKind.i64 0, int IntKind.i64 0, int IntKind.i64 0, int IntKind.i64 0, int IntKind.i64 0, int IntKind.i64 0] 77 fun (r : Nat) (h : Heap) => Heap.canSt h r 0 10 ∧ LdJ7 (Heap.setN h r 0 [int IntKind.i64 n_1, int IntKind.i64 n_2, int IntKind.i64 n_3, int IntKind.i64 n_4, int IntKind.i64 n_5, int IntKind.i64 n_6, int IntKind.i64 n_7, int IntKind.i64 n_8, int IntKind.i64 n_9, int IntKind.i64 n_10]) r 0 fun n n_11 n_12 n_13 n_14 n_15 n_16 => CallA Try.prog 44 [pointer b, agg #[int IntKind.i64 n, int IntKind.i64 n_11, int IntKind.i64 n_12, int IntKind.i64 n_13, int IntKind.i64 n_14, int IntKind.i64 n_15, int IntKind.i64 n_16]] (Heap.setN h r 0 [int IntKind.i64 n_1, int IntKind.i64 n_2, int IntKind.i64 n_3, int IntKind.i64 n_4, int IntKind.i64 n_5, int IntKind.i64 n_6, int IntKind.i64 n_7, int IntKind.i64 n_8, int IntKind.i64 n_9, int IntKind.i64 n_10]) fun (v : Value) (h : Heap) => ∃ (b_1 : Bool), v = Value.bool b_1 ∧ Br (!b_1) (Ret h K (tuple #[pointer none, int IntKind.i64 2])) (LdJ10 h r 0 fun n n_17 n_18 n_19 n_20 n_21 n_22 n_23 n_24 n_25 => CallA Try.prog 45 [agg #[int IntKind.i64 n, int IntKind.i64 n_17, int IntKind.i64 n_18, int IntKind.i64 n_19, int IntKind.i64 n_20, int IntKind.i64 n_21, int IntKind.i64 n_22, int IntKind.i64 n_23, int IntKind.i64 n_24, int IntKind.i64 n_25]] h fun (v : Value) (h : Heap) => ∃ (b_2 : Bool), v = Value.bool b_2 ∧ Br (!b_2) (Ret h K (tuple #[pointer none, int IntKind.i64 2])) (∃ (n : Int), Heap.cell h r 0 = some (int IntKind.i64 n) ∧ CallA Try.prog fn_pdeal_Book_find [pointer b, int IntKind.i64 n] h fun (v : Value) (h : Heap) => ∃ (a : Option Addr), v = pointer a ∧ Br (!Option.isNone a) (Ret h K (tuple #[pointer none, int IntKind.i64 2])) (∃ (n : Int), Heap.cell h r 9 = some (int IntKind.i64 n) ∧ Br (decide (n > 0)) (∃ (n : Int), Heap.cell h r 9 = some (int IntKind.i64 n) ∧ newB h [int IntKind.i64 n] 3 fun (r_1 : Nat) (h : Heap) => AppA [int IntKind.i64 0] 3 h orders ordersn ordersc 1 (some { block := r_1, off := 0 }) fun (ap : Option Addr) (cp : Nat) (h : Heap) => withAddr b fun (b_3 o : Nat) => ∃ (r_2 : Option Nat), Heap.cell h b_3 (o + 3) = some (map r_2) ∧ ∃ (n : Int), Heap.cell h r 0 = some (int IntKind.i64 n) ∧ withAddr b fun (b_4 o : Nat) => ∃ (a : Option Addr), ∃ (n_26 : Nat), ∃ (m : Nat), Heap.cell h b_4 (o + 2) = some (slice a n_26 m) ∧ MPutA h r_2 IntKind.i64 IntKind.i64 n (↑n_26 : Int) fun (h : Heap) => withAddr b fun (b_5 o : Nat) => ∃ (a : Option Addr), ∃ (n : Nat), ∃ (m : Nat), Heap.cell h b_5 (o + 2) = some (slice a n m) ∧ LdJ10 h r 0 fun n_27 n_28 n_29 n_30 n_31 n_32 n_33 n_34 n_35 n_36 => newB h [int IntKind.i64 n_27, int IntKind.i64 n_28, int IntKind.i64 n_29, int IntKind.i64 n_30, int IntKind.i64 n_31, int IntKind.i64 n_32, int IntKind.i64 n_33, int IntKind.i64 n_34, int IntKind.i64 n_35, int IntKind.i64 n_36] 77 fun (r : Nat) (h : Heap) => AppA [int IntKind.i64 0, int IntKind.i64 0, int IntKind.i64 0, int IntKind.i64 0, int IntKind.i64 0, int IntKind.i64 0, int IntKind.i64 0, int IntKind.i64 0, int IntKind.i64 0, int IntKind.i64 0] 77 h a n m 1 (some { block := r, off := 0 }) fun (ap_1 : Option Addr) (cp_1 : Nat) (h : Heap) => withAddr b fun (b_6 o : Nat) => Heap.canSt h b_6 (o + 2) 1 ∧ L_deal_Read_0 text b ap (ordersn + 1) cp (IntKind.wrap IntKind.i64 (at' + 28)) (Heap.setN h b_6 (o + 2) [slice ap_1 (n + 1) cp_1]) K) (withAddr b fun (b_3 o : Nat) => ∃ (r_1 : Option Nat), Heap.cell h b_3 (o + 3) = some (map r_1) ∧ ∃ (n : Int), Heap.cell h r 0 = some (int IntKind.i64 n) ∧ withAddr b fun (b_4 o : Nat) => ∃ (a : Option Addr), ∃ (n_26 : Nat), ∃ (m : Nat), Heap.cell h b_4 (o + 2) = some (slice a n_26 m) ∧ MPutA h r_1 IntKind.i64 IntKind.i64 n (↑n_26 : Int) fun (h : Heap) => withAddr b fun (b_5 o : Nat) => ∃ (a : Option Addr), ∃ (n : Nat), ∃ (m : Nat), Heap.cell h b_5 (o + 2) = some (slice a n m) ∧ LdJ10 h r 0 fun n_27 n_28 n_29 n_30 n_31 n_32 n_33 n_34 n_35 n_36 => newB h [int IntKind.i64 n_27, int IntKind.i64 n_28, int IntKind.i64 n_29, int IntKind.i64 n_30, int IntKind.i64 n_31, int IntKind.i64 n_32, int IntKind.i64 n_33, int IntKind.i64 n_34, int IntKind.i64 n_35, int IntKind.i64 n_36] 77 fun (r : Nat) (h : Heap) => AppA [int IntKind.i64 0, int IntKind.i64 0, int IntKind.i64 0, int IntKind.i64 0, int IntKind.i64 0, int IntKind.i64 0, int IntKind.i64 0, int IntKind.i64 0, int IntKind.i64 0, int IntKind.i64 0] 77 h a n m 1 (some { block := r, off := 0 }) fun (ap : Option Addr) (cp : Nat) (h : Heap) => withAddr b fun (b_6 o : Nat) => Heap.canSt h b_6 (o + 2) 1 ∧ L_deal_Read_0 text b orders ordersn ordersc (IntKind.wrap IntKind.i64 (at' + 28)) (Heap.setN h b_6 (o + 2) [slice ap (n + 1) cp]) K)))))
theorem L_deal_Read_1r (text : ByteArray) (b : Option Addr) (orders : Option Addr) (ordersn : Nat) (ordersc : Nat) (at' : Int) (n : Nat) (from' : Int) (t53_0 : Int) (t53_1 : Int) (t53_2 : Int) (t53_3 : Int) (t53_4 : Int) (t53_5 : Int) (t53_6 : Int) (t53_7 : Int) (t53_8 : Int) (t53_9 : Int) (t54 : Int) (h : Heap) (K : Value → Heap → Prop) (k : L_deal_Read_1T text b orders ordersn ordersc at' n from' t53_0 t53_1 t53_2 t53_3 t53_4 t53_5 t53_6 t53_7 t53_8 t53_9 t54 h K) : L_deal_Read_1 text b orders ordersn ordersc at' n from' t53_0 t53_1 t53_2 t53_3 t53_4 t53_5 t53_6 t53_7 t53_8 t53_9 t54 h K :=
 LoopAt.of_ev (cs := []) Try.func17 mixed (fun junk => by kernel_rfl) k
def L_deal_Read_2T (b : Option Addr) (orders : Option Addr) (ordersn : Nat) (ordersc : Nat) (t143 : Option Addr) (t143n : Nat) (t143c : Nat) (t144 : Int) (t145 : Int) (h : Heap) (K : Value → Heap → Prop) : Prop :=
 Br (decide (t145 < t144))
 (0 ≤ t145 ∧
 t145 < (↑t143n : Int) ∧
 withAddr t143 fun (b_1 o : Nat) =>
 ∃ (n : Int),
 Heap.cell h b_1 (o + Int.toNat t145) = some (int IntKind.i64 n) ∧
 Br (n != IntKind.wrap IntKind.i64 (t145 + 1)) (Ret h K (tuple #[pointer none, int IntKind.i64 2])) (L_deal_Read_2 b orders ordersn ordersc t143 t143n t143c t144 (IntKind.wrap IntKind.i64 (t145 + 1)) h K))
 (withAddr b fun (b_1 o : Nat) => Heap.canSt h b_1 (o + 4) 1 ∧ Ret (Heap.setN h b_1 (o + 4) [int IntKind.i64 (↑ordersn : Int)]) K (tuple #[pointer b, int IntKind.i64 0]))
theorem L_deal_Read_2r (b : Option Addr) (orders : Option Addr) (ordersn : Nat) (ordersc : Nat) (t143 : Option Addr) (t143n : Nat) (t143c : Nat) (t144 : Int) (t145 : Int) (h : Heap) (K : Value → Heap → Prop) (k : L_deal_Read_2T b orders ordersn ordersc t143 t143n t143c t144 t145 h K) : L_deal_Read_2 b orders ordersn ordersc t143 t143n t143c t144 t145 h K :=
 LoopAt.of_ev (cs := []) Try.func17 mixed (fun junk => by kernel_rfl) k
def F_deal_ReadT (text : ByteArray) (members : Int) (currencies : Int) (h : Heap) (K : Value → Heap → Prop) : Prop :=
 CallA Try.prog fn_deal_New [int IntKind.i64 members, int IntKind.i64 currencies] h fun (v : Value) (h : Heap) =>
 ∃ (a : Option Addr),
 ∃ (n : Int),
 v = tuple #[pointer a, int IntKind.i64 n] ∧
 Br (n != 0) (Ret h K (tuple #[pointer none, int IntKind.i64 2]))
 (Br (decide ((↑(ByteArray.size text) : Int) < 2)) (Ret h K (tuple #[pointer none, int IntKind.i64 2]))
 ((0 : Int) ≤ 2 ∧
 2 ≤ (↑(ByteArray.size text) : Int) ∧
 CallA Try.prog fn_deal_take [string (ByteArray.extract text 0 2)] h fun (v : Value) (h : Heap) =>
 ∃ (n : Int),
 v = int IntKind.i64 n ∧
 Br (decide (n > 200)) (Ret h K (tuple #[pointer none, int IntKind.i64 2]))
 (Br ((↑(ByteArray.size text) : Int) != IntKind.wrap IntKind.i64 (2 + IntKind.wrap IntKind.i64 (28 * n))) (Ret h K (tuple #[pointer none, int IntKind.i64 2])) (L_deal_Read_0 text a none 0 0 2 h K))))
theorem F_deal_Read (text : ByteArray) (members : Int) (currencies : Int) (h : Heap) (K : Value → Heap → Prop) (k : F_deal_ReadT text members currencies h K) : CallA Try.prog fn_deal_Read [string text, int IntKind.i64 members, int IntKind.i64 currencies] h K :=
 CallA.of_ev (cs := []) Try.func17 (by kernel_rfl) (fun _ _ => Try.call17 _ _) mixed (by kernel_rfl) (by kernel_rfl) k
end Go.Proofs.Ytjihfieahkbohaa

namespace Go.Proofs.Ytjihfieahkbohaa
open Go Go.Sy Go.Value
set_option linter.unusedVariables false
set_option maxRecDepth 100000
def L_ref11_lay_0 (many : Int) (u : Int) (s : ByteArray) (i : Int) (h : Heap) (K : Value → Heap → Prop) : Prop :=
 LoopAt Try.prog Try.f38 38 (loopK Try.f38 0) (sp 25 [(1, int IntKind.i64 many), (5, int IntKind.u64 u), (6, string s), (7, int IntKind.i64 i)]) h K
def L_ref11_lay_0T (many : Int) (u : Int) (s : ByteArray) (i : Int) (h : Heap) (K : Value → Heap → Prop) : Prop :=
 Br (decide (i < many))
 (newB h [int IntKind.u8 (IntKind.wrap IntKind.u8 (Int.tmod u 256))] 5 fun (r : Nat) (h : Heap) =>
 StrA h (some { block := r, off := 0 }) 1 fun (s_1 : ByteArray) =>
 (↑(ByteArray.size s_1 + ByteArray.size s) : Int) ≤ 9223372036854775807 ∧ L_ref11_lay_0 many (IntKind.wrap IntKind.u64 (Int.tdiv u 256)) (s_1 ++ s) (IntKind.wrap IntKind.i64 (i + 1)) h K)
 (Ret h K (string s))
theorem L_ref11_lay_0r (many : Int) (u : Int) (s : ByteArray) (i : Int) (h : Heap) (K : Value → Heap → Prop) (k : L_ref11_lay_0T many u s i h K) : L_ref11_lay_0 many u s i h K :=
 LoopAt.of_ev (cs := []) Try.func38 mixed (fun junk => by kernel_rfl) k
def F_ref11_layT (n : Int) (many : Int) (h : Heap) (K : Value → Heap → Prop) : Prop :=
 L_ref11_lay_0 many (IntKind.wrap IntKind.u64 n) (ByteArray.mk (#[])) 0 h K
theorem F_ref11_lay (n : Int) (many : Int) (h : Heap) (K : Value → Heap → Prop) (k : F_ref11_layT n many h K) : CallA Try.prog fn_ref11_lay [int IntKind.i64 n, int IntKind.i64 many] h K :=
 CallA.of_ev (cs := []) Try.func38 (by kernel_rfl) (fun _ _ => Try.call38 _ _) mixed (by kernel_rfl) (by kernel_rfl) k
def F_ref11_askedT (x_0 : Int) (x_1 : Int) (x_2 : Int) (x_3 : Int) (x_4 : Int) (x_5 : Int) (x_6 : Int) (x_7 : Int) (x_8 : Bool) (x_9 : Bool) (x_10 : Int) (h : Heap) (K : Value → Heap → Prop) : Prop :=
 newB h
 [int IntKind.i64 x_0, int IntKind.i64 x_1, int IntKind.i64 x_2, int IntKind.i64 x_3, int IntKind.i64 x_4, int IntKind.i64 x_5, int IntKind.i64 x_6, int IntKind.i64 x_7, Value.bool x_8, Value.bool x_9,
 int IntKind.i64 x_10]
 73 fun (r : Nat) (h : Heap) =>
 ∃ (b : Bool),
 Heap.cell h r 8 = some (Value.bool b) ∧
 Br b (∃ (b : Bool), Heap.cell h r 9 = some (Value.bool b) ∧ Br b (Ret h K (int IntKind.i64 3)) (Ret h K (int IntKind.i64 1)))
 (∃ (b : Bool), Heap.cell h r 9 = some (Value.bool b) ∧ Br b (Ret h K (int IntKind.i64 2)) (Ret h K (int IntKind.i64 0)))
theorem F_ref11_asked (x_0 : Int) (x_1 : Int) (x_2 : Int) (x_3 : Int) (x_4 : Int) (x_5 : Int) (x_6 : Int) (x_7 : Int) (x_8 : Bool) (x_9 : Bool) (x_10 : Int) (h : Heap) (K : Value → Heap → Prop) (k : F_ref11_askedT x_0 x_1 x_2 x_3 x_4 x_5 x_6 x_7 x_8 x_9 x_10 h K) : CallA Try.prog fn_ref11_asked [agg
 #[int IntKind.i64 x_0, int IntKind.i64 x_1, int IntKind.i64 x_2, int IntKind.i64 x_3, int IntKind.i64 x_4, int IntKind.i64 x_5, int IntKind.i64 x_6, int IntKind.i64 x_7, Value.bool x_8, Value.bool x_9,
 int IntKind.i64 x_10]] h K :=
 CallA.of_ev (cs := []) Try.func39 (by kernel_rfl) (fun _ _ => Try.call39 _ _) mixed (by kernel_rfl) (by kernel_rfl) k
def L_pref11_Book_Text_0 (b : Option Addr) (s : ByteArray) (i : Int) (h : Heap) (K : Value → Heap → Prop) : Prop :=
 LoopAt Try.prog Try.f13 13 (loopK Try.f13 0) (sp 78 [(0, pointer b), (3, string s), (4, int IntKind.i64 i)]) h K
def L_pref11_Book_Text_0T (b : Option Addr) (s : ByteArray) (i : Int) (h : Heap) (K : Value → Heap → Prop) : Prop := withAddr b fun (b_1 o : Nat) => ∃ (a : Option Addr), ∃ (n : Nat), ∃ (m : Nat), Heap.cell h b_1 (o + 2) = some (slice a n m) ∧ Br (decide (i < (↑n : Int))) (withAddr b fun (b_2 o : Nat) => ∃ (a : Option Addr), ∃ (n : Nat), ∃ (m : Nat), Heap.cell h b_2 (o + 2) = some (slice a n m) ∧ 0 ≤ i ∧ i < (↑n : Int) ∧ withAddr a fun (b_3 o : Nat) => LdR11 h b_3 (o + Int.toNat i * 11) fun n n_1 n_2 n_3 n_4 n_5 n_6 n_7 b_4 b_5 n_8 => newB h [int IntKind.i64 0, int IntKind.i64 0, int IntKind.i64 0, int IntKind.i64 0, int IntKind.i64 0, int IntKind.i64 0, int IntKind.i64 0, int IntKind.i64 0, Value.bool false, Value.bool false, int IntKind.i64 0] 73 fun (r : Nat) (h : Heap) => Heap.canSt h r 0 11 ∧ ∃ (n_9 : Int), Heap.cell (Heap.setN h r 0 [int IntKind.i64 n, int IntKind.i64 n_1, int IntKind.i64 n_2, int IntKind.i64 n_3, int IntKind.i64 n_4, int IntKind.i64 n_5, int IntKind.i64 n_6, int IntKind.i64 n_7, Value.bool b_4, Value.bool b_5, int IntKind.i64 n_8]) r 0 = some (int IntKind.i64 n_9) ∧ ∃ (n_10 : Int), Heap.cell (Heap.setN h r 0 [int IntKind.i64 n, int IntKind.i64 n_1, int IntKind.i64 n_2, int IntKind.i64 n_3, int IntKind.i64 n_4, int IntKind.i64 n_5, int IntKind.i64 n_6, int IntKind.i64 n_7, Value.bool b_4, Value.bool b_5, int IntKind.i64 n_8]) r 1 = some (int IntKind.i64 n_10) ∧ ∃ (n_11 : Int), Heap.cell (Heap.setN h r 0 [int IntKind.i64 n, int IntKind.i64 n_1, int IntKind.i64 n_2, int IntKind.i64 n_3, int IntKind.i64 n_4, int IntKind.i64 n_5, int IntKind.i64 n_6, int IntKind.i64 n_7, Value.bool b_4, Value.bool b_5, int IntKind.i64 n_8]) r 2 = some (int IntKind.i64 n_11) ∧ ∃ (n_12 : Int), Heap.cell (Heap.setN h r 0 [int IntKind.i64 n, int IntKind.i64 n_1, int IntKind.i64 n_2, int IntKind.i64 n_3, int IntKind.i64 n_4, int IntKind.i64 n_5, int IntKind.i64 n_6, int IntKind.i64 n_7, Value.bool b_4, Value.bool b_5, int IntKind.i64 n_8]) r 3 = some (int IntKind.i64 n_12) ∧ ∃ (n_13 : Int), Heap.cell (Heap.setN h r 0 [int IntKind.i64 n, int IntKind.i64 n_1, int IntKind.i64 n_2, int IntKind.i64 n_3, int IntKind.i64 n_4, int IntKind.i64 n_5, int IntKind.i64 n_6, int IntKind.i64 n_7, Value.bool b_4, Value.bool b_5, int IntKind.i64 n_8]) r 4 = some (int IntKind.i64 n_13) ∧ CallA Try.prog fn_ref11_lay [int IntKind.i64 n_9, int IntKind.i64 4] (Heap.setN h r 0 [int IntKind.i64 n, int IntKind.i64 n_1, int IntKind.i64 n_2, int IntKind.i64 n_3, int IntKind.i64 n_4, int IntKind.i64 n_5, int IntKind.i64 n_6, int IntKind.i64 n_7, Value.bool b_4, Value.bool b_5, int IntKind.i64 n_8]) fun (v : Value) (h_1 : Heap) => ∃ (s_1 : ByteArray), v = string s_1 ∧ (Heap.le (Heap.setN h r 0 [int IntKind.i64 n, int IntKind.i64 n_1, int IntKind.i64 n_2, int IntKind.i64 n_3, int IntKind.i64 n_4, int IntKind.i64 n_5, int IntKind.i64 n_6, int IntKind.i64 n_7, Value.bool b_4, Value.bool b_5, int IntKind.i64 n_8]) h_1 ∨ Keeps [r, r, r, r] (Heap.setN h r 0 [int IntKind.i64 n, int IntKind.i64 n_1, int IntKind.i64 n_2, int IntKind.i64 n_3, int IntKind.i64 n_4, int IntKind.i64 n_5, int IntKind.i64 n_6, int IntKind.i64 n_7, Value.bool b_4, Value.bool b_5, int IntKind.i64 n_8]) h_1) ∧ (↑(ByteArray.size s + ByteArray.size s_1) : Int) ≤ 9223372036854775807 ∧ CallA Try.prog fn_ref11_lay [int IntKind.i64 n_10, int IntKind.i64 1] h_1 fun (v : Value) (h : Heap) => ∃ (s_2 : ByteArray), v = string s_2 ∧ (Heap.le h_1 h ∨ Keeps [r, r, r] h_1 h) ∧ (↑(ByteArray.size (s ++ s_1) + ByteArray.size s_2) : Int) ≤ 9223372036854775807 ∧ CallA Try.prog fn_ref11_lay [int IntKind.i64 n_11, int IntKind.i64 1] h fun (v : Value) (h_2 : Heap) => ∃ (s_3 : ByteArray), v = string s_3 ∧ (Heap.le h h_2 ∨ Keeps [r, r] h h_2) ∧ (↑(ByteArray.size (s ++ s_1 ++ s_2) + ByteArray.size s_3) : Int) ≤ 9223372036854775807 ∧ CallA Try.prog fn_ref11_lay [int IntKind.i64 n_12, int IntKind.i64 1] h_2 fun (v : Value) (h : Heap) => ∃ (s_4 : ByteArray), v = string s_4 ∧ (Heap.le h_2 h ∨ Keeps [r] h_2 h) ∧ (↑(ByteArray.size (s ++ s_1 ++ s_2 ++ s_3) + ByteArray.size s_4) : Int) ≤ 9223372036854775807 ∧ CallA Try.prog fn_ref11_lay [int IntKind.i64 n_13, int IntKind.i64 1] h fun (v : Value) (h : Heap) => ∃ (s_5 : ByteArray), v = string s_5 ∧ (↑(ByteArray.size (s ++ s_1 ++ s_2 ++ s_3 ++ s_4) + ByteArray.size s_5) : Int) ≤ 9223372036854775807 ∧ ∃ (n : Int), Heap.cell h r 5 = some (int IntKind.i64 n) ∧ ∃ (n_14 : Int), Heap.cell h r 6 = some (int IntKind.i64 n_14) ∧ ∃ (n_15 : Int), Heap.cell h r 7 = some (int IntKind.i64 n_15) ∧ LdR11 h r 0 fun n_16 n_17 n_18 n_19 n_20 n_21 n_22 n_23 b_6 b_7 n_24 => ∃ (n_25 : Int), Heap.cell h r 10 = some (int IntKind.i64 n_25) ∧ CallA Try.prog 38 [int IntKind.i64 n, int IntKind.i64 8] h fun (v : Value) (h_3 : Heap) => ∃ (s_6 : ByteArray), v = string s_6 ∧ (Heap.le h h_3 ∨ Keeps [r, r, r, r] h h_3) ∧ (↑(ByteArray.size (s ++ s_1 ++ s_2 ++ s_3 ++ s_4 ++ s_5) + ByteArray.size s_6) : Int) ≤ 9223372036854775807 ∧ CallA Try.prog 38 [int IntKind.i64 n_14, int IntKind.i64 8] h_3 fun (v : Value) (h : Heap) => ∃ (s_7 : ByteArray), v = string s_7 ∧ (Heap.le h_3 h ∨ Keeps [r, r, r] h_3 h) ∧ (↑(ByteArray.size (s ++ s_1 ++ s_2 ++ s_3 ++ s_4 ++ s_5 ++ s_6) + ByteArray.size s_7) : Int) ≤ 9223372036854775807 ∧ CallA Try.prog 38 [int IntKind.i64 n_15, int IntKind.i64 1] h fun (v : Value) (h_4 : Heap) => ∃ (s_8 : ByteArray), v = string s_8 ∧ (Heap.le h h_4 ∨ Keeps [r, r] h h_4) ∧ (↑(ByteArray.size (s ++ s_1 ++ s_2 ++ s_3 ++ s_4 ++ s_5 ++ s_6 ++ s_7) + ByteArray.size s_8) : Int) ≤ 9223372036854775807 ∧ CallA Try.prog 39 [agg #[int IntKind.i64 n_16, int IntKind.i64 n_17, int IntKind.i64 n_18, int IntKind.i64 n_19, int IntKind.i64 n_20, int IntKind.i64 n_21, int IntKind.i64 n_22, int IntKind.i64 n_23, Value.bool b_6, Value.bool b_7, int IntKind.i64 n_24]] h_4 fun (v : Value) (h : Heap) => ∃ (n : Int), v = int IntKind.i64 n ∧ (Heap.le h_4 h ∨ Keeps [r] h_4 h) ∧ CallA Try.prog 38 [int IntKind.i64 n, int IntKind.i64 1] h fun (v : Value) (h_5 : Heap) => ∃ (s_9 : ByteArray), v = string s_9 ∧ (Heap.le h h_5 ∨ Keeps [r] h h_5) ∧ (↑(ByteArray.size (s ++ s_1 ++ s_2 ++ s_3 ++ s_4 ++ s_5 ++ s_6 ++ s_7 ++ s_8) + ByteArray.size s_9) : Int) ≤ 9223372036854775807 ∧ CallA Try.prog 38 [int IntKind.i64 n_25, int IntKind.i64 2] h_5 fun (v : Value) (h : Heap) => ∃ (s_10 : ByteArray), v = string s_10 ∧ (↑(ByteArray.size (s ++ s_1 ++ s_2 ++ s_3 ++ s_4 ++ s_5 ++ s_6 ++ s_7 ++ s_8 ++ s_9) + ByteArray.size s_10) : Int) ≤ 9223372036854775807 ∧ L_pref11_Book_Text_0 b (s ++ s_1 ++ s_2 ++ s_3 ++ s_4 ++ s_5 ++ s_6 ++ s_7 ++ s_8 ++ s_9 ++ s_10) (IntKind.wrap IntKind.i64 (i + 1)) h K) (Ret h K (string s))
theorem L_pref11_Book_Text_0r (b : Option Addr) (s : ByteArray) (i : Int) (h : Heap) (K : Value → Heap → Prop) (k : L_pref11_Book_Text_0T b s i h K) : L_pref11_Book_Text_0 b s i h K :=
 LoopAt.of_ev (cs := []) Try.func13 mixed (fun junk => by kernel_rfl) k
def F_pref11_Book_TextT (b : Option Addr) (h : Heap) (K : Value → Heap → Prop) : Prop :=
 withAddr b fun (b_1 o : Nat) =>
 ∃ (a : Option Addr),
 ∃ (n : Nat),
 ∃ (m : Nat), Heap.cell h b_1 (o + 2) = some (slice a n m) ∧ CallA Try.prog fn_ref11_lay [int IntKind.i64 (↑n : Int), int IntKind.i64 2] h fun (v : Value) (h : Heap) => ∃ (s : ByteArray), v = string s ∧ L_pref11_Book_Text_0 b s 0 h K
theorem F_pref11_Book_Text (b : Option Addr) (h : Heap) (K : Value → Heap → Prop) (k : F_pref11_Book_TextT b h K) : CallA Try.prog fn_pref11_Book_Text [pointer b] h K :=
 CallA.of_ev (cs := []) Try.func13 (by kernel_rfl) (fun _ _ => Try.call13 _ _) mixed (by kernel_rfl) (by kernel_rfl) k
def L_ref11_number_0 (s : ByteArray) (at' : Int) (many : Int) (n : Int) (i : Int) (h : Heap) (K : Value → Heap → Prop) : Prop :=
 LoopAt Try.prog Try.f48 48 (loopK Try.f48 0) (sp 26 [(0, string s), (1, int IntKind.i64 at'), (2, int IntKind.i64 many), (7, int IntKind.u64 n), (8, int IntKind.i64 i)]) h K
def L_ref11_number_0T (s : ByteArray) (at' : Int) (many : Int) (n : Int) (i : Int) (h : Heap) (K : Value → Heap → Prop) : Prop :=
 Br (decide (i < IntKind.wrap IntKind.i64 (at' + many)))
 (0 ≤ i ∧
 ∃ (c : UInt8), s[Int.toNat i]? = some c ∧ L_ref11_number_0 s at' many (IntKind.wrap IntKind.u64 (IntKind.wrap IntKind.u64 (n * 256) + IntKind.wrap IntKind.u64 (↑(UInt8.toNat c) : Int))) (IntKind.wrap IntKind.i64 (i + 1)) h K)
 (Ret h K (int IntKind.i64 (IntKind.wrap IntKind.i64 n)))
theorem L_ref11_number_0r (s : ByteArray) (at' : Int) (many : Int) (n : Int) (i : Int) (h : Heap) (K : Value → Heap → Prop) (k : L_ref11_number_0T s at' many n i h K) : L_ref11_number_0 s at' many n i h K :=
 LoopAt.of_ev (cs := []) Try.func48 mixed (fun junk => by kernel_rfl) k
def F_ref11_numberT (s : ByteArray) (at' : Int) (many : Int) (h : Heap) (K : Value → Heap → Prop) : Prop :=
 L_ref11_number_0 s at' many 0 at' h K
theorem F_ref11_number (s : ByteArray) (at' : Int) (many : Int) (h : Heap) (K : Value → Heap → Prop) (k : F_ref11_numberT s at' many h K) : CallA Try.prog fn_ref11_number [string s, int IntKind.i64 at', int IntKind.i64 many] h K :=
 CallA.of_ev (cs := []) Try.func48 (by kernel_rfl) (fun _ _ => Try.call48 _ _) mixed (by kernel_rfl) (by kernel_rfl) k
def F_ref11_couldT (x_0 : Int) (x_1 : Int) (x_2 : Int) (x_3 : Int) (x_4 : Int) (x_5 : Int) (x_6 : Int) (x_7 : Int) (x_8 : Bool) (x_9 : Bool) (x_10 : Int) (h : Heap) (K : Value → Heap → Prop) : Prop :=
 newB h
 [int IntKind.i64 x_0, int IntKind.i64 x_1, int IntKind.i64 x_2, int IntKind.i64 x_3, int IntKind.i64 x_4, int IntKind.i64 x_5, int IntKind.i64 x_6, int IntKind.i64 x_7, Value.bool x_8, Value.bool x_9,
 int IntKind.i64 x_10]
 73 fun (r : Nat) (h : Heap) =>
 ∃ (n : Int),
 Heap.cell h r 7 = some (int IntKind.i64 n) ∧
 Br (n == 1)
 (∃ (b : Bool),
 Heap.cell h r 8 = some (Value.bool b) ∧
 Br (!b) (∃ (b : Bool), Heap.cell h r 9 = some (Value.bool b) ∧ Br (!b) (∃ (n : Int), Heap.cell h r 10 = some (int IntKind.i64 n) ∧ Ret h K (Value.bool (n == 0))) (Ret h K (Value.bool false)))
 (Ret h K (Value.bool false)))
 (∃ (n : Int),
 Heap.cell h r 7 = some (int IntKind.i64 n) ∧
 Br (n == 2)
 (∃ (b : Bool),
 Heap.cell h r 8 = some (Value.bool b) ∧
 Br b (∃ (b : Bool), Heap.cell h r 9 = some (Value.bool b) ∧ Br (!b) (∃ (n : Int), Heap.cell h r 10 = some (int IntKind.i64 n) ∧ Ret h K (Value.bool (decide (n > 0)))) (Ret h K (Value.bool false)))
 (∃ (n : Int), Heap.cell h r 10 = some (int IntKind.i64 n) ∧ Ret h K (Value.bool (decide (n > 0)))))
 (∃ (n : Int),
 Heap.cell h r 7 = some (int IntKind.i64 n) ∧
 Br (n == 3)
 (∃ (b : Bool),
 Heap.cell h r 8 = some (Value.bool b) ∧
 Br b (∃ (b : Bool), Heap.cell h r 9 = some (Value.bool b) ∧ Br (!b) (∃ (n : Int), Heap.cell h r 10 = some (int IntKind.i64 n) ∧ Ret h K (Value.bool (decide (n > 0)))) (Ret h K (Value.bool false)))
 (∃ (n : Int), Heap.cell h r 10 = some (int IntKind.i64 n) ∧ Ret h K (Value.bool (decide (n > 0)))))
 (∃ (n : Int),
 Heap.cell h r 7 = some (int IntKind.i64 n) ∧
 Br (n == 4)
 (∃ (n : Int),
 Heap.cell h r 10 = some (int IntKind.i64 n) ∧
 Br (decide (n > 0)) (Ret h K (Value.bool true))
 (∃ (b : Bool), Heap.cell h r 8 = some (Value.bool b) ∧ Br (!b) (∃ (b : Bool), Heap.cell h r 9 = some (Value.bool b) ∧ Ret h K (Value.bool !b)) (Ret h K (Value.bool false))))
 (Ret h K (Value.bool false)))))
theorem F_ref11_could (x_0 : Int) (x_1 : Int) (x_2 : Int) (x_3 : Int) (x_4 : Int) (x_5 : Int) (x_6 : Int) (x_7 : Int) (x_8 : Bool) (x_9 : Bool) (x_10 : Int) (h : Heap) (K : Value → Heap → Prop) (k : F_ref11_couldT x_0 x_1 x_2 x_3 x_4 x_5 x_6 x_7 x_8 x_9 x_10 h K) : CallA Try.prog fn_ref11_could [agg
 #[int IntKind.i64 x_0, int IntKind.i64 x_1, int IntKind.i64 x_2, int IntKind.i64 x_3, int IntKind.i64 x_4, int IntKind.i64 x_5, int IntKind.i64 x_6, int IntKind.i64 x_7, Value.bool x_8, Value.bool x_9,
 int IntKind.i64 x_10]] h K :=
 CallA.of_ev (cs := []) Try.func50 (by kernel_rfl) (fun _ _ => Try.call50 _ _) mixed (by kernel_rfl) (by kernel_rfl) k
def L_ref11_Read_0 (s : ByteArray) (b : Option Addr) (at' : Int) (h : Heap) (K : Value → Heap → Prop) : Prop :=
 LoopAt Try.prog Try.f18 18 (loopK Try.f18 0) (sp 176 [(0, string s), (8, pointer b), (10, int IntKind.i64 at')]) h K
def L_ref11_Read_1 (b : Option Addr) (n : Int) (h : Heap) (K : Value → Heap → Prop) : Prop :=
 LoopAt Try.prog Try.f18 18 (loopK Try.f18 1) (sp 176 [(8, pointer b), (13, int IntKind.i64 n)]) h K
def L_ref11_Read_2 (b : Option Addr) (n : Int) (some : Bool) (i : Int) (h : Heap) (K : Value → Heap → Prop) : Prop :=
 LoopAt Try.prog Try.f18 18 (loopK Try.f18 2) (sp 176 [(8, pointer b), (13, int IntKind.i64 n), (14, Value.bool some), (15, int IntKind.i64 i)]) h K
def L_ref11_Read_0T (s : ByteArray) (b : Option Addr) (at' : Int) (h : Heap) (K : Value → Heap → Prop) : Prop := Br (decide (at' < (↑(ByteArray.size s) : Int))) (CallA Try.prog fn_ref11_number [string s, int IntKind.i64 (IntKind.wrap IntKind.i64 (at' + 25)), int IntKind.i64 1] h fun (v : Value) (h : Heap) => ∃ (n : Int), v = int IntKind.i64 n ∧ CallA Try.prog fn_ref11_number [string s, int IntKind.i64 (IntKind.wrap IntKind.i64 (at' + 24)), int IntKind.i64 1] h fun (v : Value) (h : Heap) => ∃ (n_1 : Int), v = int IntKind.i64 n_1 ∧ CallA Try.prog fn_ref11_number [string s, int IntKind.i64 (IntKind.wrap IntKind.i64 (at' + 26)), int IntKind.i64 2] h fun (v : Value) (h : Heap) => ∃ (n_2 : Int), v = int IntKind.i64 n_2 ∧ newB h [int IntKind.i64 0, int IntKind.i64 0, int IntKind.i64 0, int IntKind.i64 0, int IntKind.i64 0, int IntKind.i64 0, int IntKind.i64 0, int IntKind.i64 0, Value.bool false, Value.bool false, int IntKind.i64 0] 73 fun (r : Nat) (h : Heap) => Heap.canSt h r 0 11 ∧ 0 ≤ IntKind.wrap IntKind.i64 (at' + 4) ∧ ∃ (c : UInt8), s[Int.toNat (IntKind.wrap IntKind.i64 (at' + 4))]? = some c ∧ 0 ≤ IntKind.wrap IntKind.i64 (at' + 5) ∧ ∃ (c_1 : UInt8), s[Int.toNat (IntKind.wrap IntKind.i64 (at' + 5))]? = some c_1 ∧ 0 ≤ IntKind.wrap IntKind.i64 (at' + 6) ∧ ∃ (c_2 : UInt8), s[Int.toNat (IntKind.wrap IntKind.i64 (at' + 6))]? = some c_2 ∧ 0 ≤ IntKind.wrap IntKind.i64 (at' + 7) ∧ ∃ (c_3 : UInt8), s[Int.toNat (IntKind.wrap IntKind.i64 (at' + 7))]? = some c_3 ∧ CallA Try.prog fn_ref11_number [string s, int IntKind.i64 at', int IntKind.i64 4] (Heap.setN h r 0 [int IntKind.i64 0, int IntKind.i64 0, int IntKind.i64 0, int IntKind.i64 0, int IntKind.i64 0, int IntKind.i64 0, int IntKind.i64 0, int IntKind.i64 n_1, Value.bool (Int.tmod n 2 == 1), Value.bool (IntKind.wrap IntKind.i64 (Int.tdiv n 2) == 1), int IntKind.i64 n_2]) fun (v : Value) (h : Heap) => ∃ (n_3 : Int), v = int IntKind.i64 n_3 ∧ CallA Try.prog fn_ref11_number [string s, int IntKind.i64 (IntKind.wrap IntKind.i64 (at' + 8)), int IntKind.i64 8] h fun (v : Value) (h : Heap) => ∃ (n_4 : Int), v = int IntKind.i64 n_4 ∧ CallA Try.prog fn_ref11_number [string s, int IntKind.i64 (IntKind.wrap IntKind.i64 (at' + 16)), int IntKind.i64 8] h fun (v : Value) (h : Heap) => ∃ (n_5 : Int), v = int IntKind.i64 n_5 ∧ Heap.canSt h r 0 7 ∧ Br (decide (n > 3)) (Ret (Heap.setN h r 0 [int IntKind.i64 n_3, int IntKind.i64 (IntKind.wrap IntKind.i64 (↑(UInt8.toNat c) : Int)), int IntKind.i64 (IntKind.wrap IntKind.i64 (↑(UInt8.toNat c_1) : Int)), int IntKind.i64 (IntKind.wrap IntKind.i64 (↑(UInt8.toNat c_2) : Int)), int IntKind.i64 (IntKind.wrap IntKind.i64 (↑(UInt8.toNat c_3) : Int)), int IntKind.i64 n_4, int IntKind.i64 n_5]) K (tuple #[pointer none, int IntKind.i64 2])) (LdJ7 (Heap.setN h r 0 [int IntKind.i64 n_3, int IntKind.i64 (IntKind.wrap IntKind.i64 (↑(UInt8.toNat c) : Int)), int IntKind.i64 (IntKind.wrap IntKind.i64 (↑(UInt8.toNat c_1) : Int)), int IntKind.i64 (IntKind.wrap IntKind.i64 (↑(UInt8.toNat c_2) : Int)), int IntKind.i64 (IntKind.wrap IntKind.i64 (↑(UInt8.toNat c_3) : Int)), int IntKind.i64 n_4, int IntKind.i64 n_5]) r 0 fun n n_6 n_7 n_8 n_9 n_10 n_11 => CallA Try.prog 49 [pointer b, agg #[int IntKind.i64 n, int IntKind.i64 n_6, int IntKind.i64 n_7, int IntKind.i64 n_8, int IntKind.i64 n_9, int IntKind.i64 n_10, int IntKind.i64 n_11]] (Heap.setN h r 0 [int IntKind.i64 n_3, int IntKind.i64 (IntKind.wrap IntKind.i64 (↑(UInt8.toNat c) : Int)), int IntKind.i64 (IntKind.wrap IntKind.i64 (↑(UInt8.toNat c_1) : Int)), int IntKind.i64 (IntKind.wrap IntKind.i64 (↑(UInt8.toNat c_2) : Int)), int IntKind.i64 (IntKind.wrap IntKind.i64 (↑(UInt8.toNat c_3) : Int)), int IntKind.i64 n_4, int IntKind.i64 n_5]) fun (v : Value) (h : Heap) => ∃ (b_1 : Bool), v = Value.bool b_1 ∧ Br (!b_1) (Ret h K (tuple #[pointer none, int IntKind.i64 2])) (∃ (n : Int), Heap.cell h r 0 = some (int IntKind.i64 n) ∧ CallA Try.prog fn_pref11_Book_At [pointer b, int IntKind.i64 n] h fun (v : Value) (h : Heap) => ∃ (n : Int), v = int IntKind.i64 n ∧ Br (decide (n ≥ 0)) (Ret h K (tuple #[pointer none, int IntKind.i64 2])) (LdR11 h r 0 fun n n_12 n_13 n_14 n_15 n_16 n_17 n_18 b_2 b_3 n_19 => CallA Try.prog 50 [agg #[int IntKind.i64 n, int IntKind.i64 n_12, int IntKind.i64 n_13, int IntKind.i64 n_14, int IntKind.i64 n_15, int IntKind.i64 n_16, int IntKind.i64 n_17, int IntKind.i64 n_18, Value.bool b_2, Value.bool b_3, int IntKind.i64 n_19]] h fun (v : Value) (h : Heap) => ∃ (b_4 : Bool), v = Value.bool b_4 ∧ Br (!b_4) (Ret h K (tuple #[pointer none, int IntKind.i64 2])) (withAddr b fun (b_5 o : Nat) => ∃ (a : Option Addr), ∃ (n : Nat), ∃ (m : Nat), Heap.cell h b_5 (o + 2) = some (slice a n m) ∧ LdR11 h r 0 fun n_20 n_21 n_22 n_23 n_24 n_25 n_26 n_27 b_6 b_7 n_28 => newB h [int IntKind.i64 n_20, int IntKind.i64 n_21, int IntKind.i64 n_22, int IntKind.i64 n_23, int IntKind.i64 n_24, int IntKind.i64 n_25, int IntKind.i64 n_26, int IntKind.i64 n_27, Value.bool b_6, Value.bool b_7, int IntKind.i64 n_28] 73 fun (r_1 : Nat) (h : Heap) => AppA [int IntKind.i64 0, int IntKind.i64 0, int IntKind.i64 0, int IntKind.i64 0, int IntKind.i64 0, int IntKind.i64 0, int IntKind.i64 0, int IntKind.i64 0, Value.bool false, Value.bool false, int IntKind.i64 0] 73 h a n m 1 (some { block := r_1, off := 0 }) fun (ap : Option Addr) (cp : Nat) (h : Heap) => withAddr b fun (b_8 o : Nat) => Heap.canSt h b_8 (o + 2) 1 ∧ ∃ (n_29 : Int), Heap.cell (Heap.setN h b_8 (o + 2) [slice ap (n + 1) cp]) r 10 = some (int IntKind.i64 n_29) ∧ Br (decide (n_29 > 0)) (withAddr b fun (b_9 o_1 : Nat) => ∃ (n_30 : Int), Heap.cell (Heap.setN h b_8 (o + 2) [slice ap (n + 1) cp]) b_9 (o_1 + 3) = some (int IntKind.i64 n_30) ∧ withAddr b fun (b_10 o_2 : Nat) => Heap.canSt (Heap.setN h b_8 (o + 2) [slice ap (n + 1) cp]) b_10 (o_2 + 3) 1 ∧ L_ref11_Read_0 s b (IntKind.wrap IntKind.i64 (at' + 28)) (Heap.setN (Heap.setN h b_8 (o + 2) [slice ap (n + 1) cp]) b_10 (o_2 + 3) [int IntKind.i64 (IntKind.wrap IntKind.i64 (n_30 + 1))]) K) (L_ref11_Read_0 s b (IntKind.wrap IntKind.i64 (at' + 28)) (Heap.setN h b_8 (o + 2) [slice ap (n + 1) cp]) K)))))) (L_ref11_Read_1 b 1 h K)
theorem L_ref11_Read_0r (s : ByteArray) (b : Option Addr) (at' : Int) (h : Heap) (K : Value → Heap → Prop) (k : L_ref11_Read_0T s b at' h K) : L_ref11_Read_0 s b at' h K :=
 LoopAt.of_ev (cs := []) Try.func18 mixed (fun junk => by kernel_rfl) k
def L_ref11_Read_1T (b : Option Addr) (n : Int) (h : Heap) (K : Value → Heap → Prop) : Prop :=
 withAddr b fun (b_1 o : Nat) => ∃ (n_1 : Int), Heap.cell h b_1 (o + 3) = some (int IntKind.i64 n_1) ∧ Br (decide (n ≤ n_1)) (L_ref11_Read_2 b n false 0 h K) (Ret h K (tuple #[pointer b, int IntKind.i64 0]))
theorem L_ref11_Read_1r (b : Option Addr) (n : Int) (h : Heap) (K : Value → Heap → Prop) (k : L_ref11_Read_1T b n h K) : L_ref11_Read_1 b n h K :=
 LoopAt.of_ev (cs := []) Try.func18 mixed (fun junk => by kernel_rfl) k
def L_ref11_Read_2T (b : Option Addr) (n : Int) (some : Bool) (i : Int) (h : Heap) (K : Value → Heap → Prop) : Prop :=
 withAddr b fun (b_1 o : Nat) =>
 ∃ (a : Option Addr),
 ∃ (n_1 : Nat),
 ∃ (m : Nat),
 Heap.cell h b_1 (o + 2) = Option.some (slice a n_1 m) ∧
 Br (decide (i < (↑n_1 : Int)))
 (Br some (L_ref11_Read_2 b n true (IntKind.wrap IntKind.i64 (i + 1)) h K)
 (withAddr b fun (b_2 o : Nat) =>
 ∃ (a : Option Addr),
 ∃ (n_2 : Nat),
 ∃ (m : Nat),
 Heap.cell h b_2 (o + 2) = Option.some (slice a n_2 m) ∧
 0 ≤ i ∧
 i < (↑n_2 : Int) ∧
 withAddr a fun (b_3 o : Nat) => ∃ (n_3 : Int), Heap.cell h b_3 (o + Int.toNat i * 11 + 10) = Option.some (int IntKind.i64 n_3) ∧ L_ref11_Read_2 b n (n_3 == n) (IntKind.wrap IntKind.i64 (i + 1)) h K))
 (Br (!some) (Ret h K (tuple #[pointer none, int IntKind.i64 2])) (L_ref11_Read_1 b (IntKind.wrap IntKind.i64 (n + 1)) h K))
theorem L_ref11_Read_2r (b : Option Addr) (n : Int) (some : Bool) (i : Int) (h : Heap) (K : Value → Heap → Prop) (k : L_ref11_Read_2T b n some i h K) : L_ref11_Read_2 b n some i h K :=
 LoopAt.of_ev (cs := []) Try.func18 mixed (fun junk => by kernel_rfl) k
def F_ref11_ReadT (s : ByteArray) (members : Int) (currencies : Int) (h : Heap) (K : Value → Heap → Prop) : Prop :=
 CallA Try.prog fn_ref11_New [int IntKind.i64 members, int IntKind.i64 currencies] h fun (v : Value) (h : Heap) =>
 ∃ (a : Option Addr),
 ∃ (n : Int),
 v = tuple #[pointer a, int IntKind.i64 n] ∧
 Br (n != 0) (Ret h K (tuple #[pointer none, int IntKind.i64 2]))
 (Br (decide ((↑(ByteArray.size s) : Int) < 2)) (Ret h K (tuple #[pointer none, int IntKind.i64 2]))
 (CallA Try.prog fn_ref11_number [string s, int IntKind.i64 0, int IntKind.i64 2] h fun (v : Value) (h : Heap) =>
 ∃ (n : Int),
 v = int IntKind.i64 n ∧
 Br (decide (n > 200)) (Ret h K (tuple #[pointer none, int IntKind.i64 2]))
 (CallA Try.prog fn_ref11_number [string s, int IntKind.i64 0, int IntKind.i64 2] h fun (v : Value) (h : Heap) =>
 ∃ (n : Int),
 v = int IntKind.i64 n ∧
 Br ((↑(ByteArray.size s) : Int) != IntKind.wrap IntKind.i64 (2 + IntKind.wrap IntKind.i64 (28 * n))) (Ret h K (tuple #[pointer none, int IntKind.i64 2])) (L_ref11_Read_0 s a 2 h K))))
theorem F_ref11_Read (s : ByteArray) (members : Int) (currencies : Int) (h : Heap) (K : Value → Heap → Prop) (k : F_ref11_ReadT s members currencies h K) : CallA Try.prog fn_ref11_Read [string s, int IntKind.i64 members, int IntKind.i64 currencies] h K :=
 CallA.of_ev (cs := []) Try.func18 (by kernel_rfl) (fun _ _ => Try.call18 _ _) mixed (by kernel_rfl) (by kernel_rfl) k
end Go.Proofs.Ytjihfieahkbohaa

namespace Go.Proofs.Ytjihfieahkbohaa
open Go Go.Sy Go.Value
set_option linter.unusedVariables false
set_option maxRecDepth 100000
def F_slices_Sort_int_intT (x : Option Addr) (xn : Nat) (xc : Nat) (h : Heap) (K : Value → Heap → Prop) : Prop :=
 CallA Try.prog fn_math_bits_Len [int IntKind.u64 (IntKind.wrap IntKind.u64 (↑xn : Int))] h fun (v : Value) (h : Heap) =>
 ∃ (n : Int), v = int IntKind.i64 n ∧ CallA Try.prog fn_slices_pdqsortOrdered_int [slice x xn xc, int IntKind.i64 0, int IntKind.i64 (↑xn : Int), int IntKind.i64 n] h fun (v : Value) (h : Heap) => v = tuple #[] ∧ Ret h K (tuple #[])
theorem F_slices_Sort_int_int (x : Option Addr) (xn : Nat) (xc : Nat) (h : Heap) (K : Value → Heap → Prop) (k : F_slices_Sort_int_intT x xn xc h K) : CallA Try.prog fn_slices_Sort_int_int [slice x xn xc] h K :=
 CallA.of_ev (cs := []) Try.func47 (by kernel_rfl) (fun _ _ => Try.call47 _ _) mixed (by kernel_rfl) (by kernel_rfl) k
def L_slices_pdqsortOrdered_int_0 (data : Option Addr) (datan : Nat) (datac : Nat) (a : Int) (b : Int) (limit : Int) (wasBalanced : Bool) (wasPartitioned : Bool) (h : Heap) (K : Value → Heap → Prop) : Prop :=
 LoopAt Try.prog Try.f74 74 (loopK Try.f74 0) (sp 134 [(0, slice data datan datac), (1, int IntKind.i64 a), (2, int IntKind.i64 b), (3, int IntKind.i64 limit), (8, Value.bool wasBalanced), (9, Value.bool wasPartitioned)]) h K
def L_slices_pdqsortOrdered_int_1010 (data : Option Addr) (datan : Nat) (datac : Nat) (a : Int) (b : Int) (limit : Int) (wasBalanced : Bool) (wasPartitioned : Bool) (length : Int) (h : Heap) (K : Value → Heap → Prop) : Prop :=
 CutAt Try.prog Try.f74 74 (cutK Try.f74 10) (sp 134 [(0, slice data datan datac), (1, int IntKind.i64 a), (2, int IntKind.i64 b), (3, int IntKind.i64 limit), (8, Value.bool wasBalanced), (9, Value.bool wasPartitioned), (10, int IntKind.i64 length)]) h K
def L_slices_pdqsortOrdered_int_1015 (data : Option Addr) (datan : Nat) (datac : Nat) (a : Int) (b : Int) (limit : Int) (wasBalanced : Bool) (wasPartitioned : Bool) (length : Int) (pivot : Int) (hint : Int) (h : Heap) (K : Value → Heap → Prop) : Prop :=
 CutAt Try.prog Try.f74 74 (cutK Try.f74 15) (sp 134 [(0, slice data datan datac), (1, int IntKind.i64 a), (2, int IntKind.i64 b), (3, int IntKind.i64 limit), (8, Value.bool wasBalanced), (9, Value.bool wasPartitioned), (10, int IntKind.i64 length),
 (11, int IntKind.i64 pivot), (12, int IntKind.i64 hint)]) h K
def L_slices_pdqsortOrdered_int_1017 (data : Option Addr) (datan : Nat) (datac : Nat) (a : Int) (b : Int) (limit : Int) (wasBalanced : Bool) (wasPartitioned : Bool) (length : Int) (pivot : Int) (h : Heap) (K : Value → Heap → Prop) : Prop :=
 CutAt Try.prog Try.f74 74 (cutK Try.f74 17) (sp 134 [(0, slice data datan datac), (1, int IntKind.i64 a), (2, int IntKind.i64 b), (3, int IntKind.i64 limit), (8, Value.bool wasBalanced), (9, Value.bool wasPartitioned), (10, int IntKind.i64 length),
 (11, int IntKind.i64 pivot)]) h K
def L_slices_pdqsortOrdered_int_0T (data : Option Addr) (datan : Nat) (datac : Nat) (a : Int) (b : Int) (limit : Int) (wasBalanced : Bool) (wasPartitioned : Bool) (h : Heap) (K : Value → Heap → Prop) : Prop :=
 Br (decide (IntKind.wrap IntKind.i64 (b - a) ≤ 12)) (CallA Try.prog fn_slices_insertionSortOrdered_int [slice data datan datac, int IntKind.i64 a, int IntKind.i64 b] h fun (v : Value) (h : Heap) => v = tuple #[] ∧ Ret h K (tuple #[]))
 (Br (limit == 0) (CallA Try.prog fn_slices_heapSortOrdered_int [slice data datan datac, int IntKind.i64 a, int IntKind.i64 b] h fun (v : Value) (h : Heap) => v = tuple #[] ∧ Ret h K (tuple #[]))
 (Br (!wasBalanced)
 (CallA Try.prog fn_slices_breakPatternsOrdered_int [slice data datan datac, int IntKind.i64 a, int IntKind.i64 b] h fun (v : Value) (h : Heap) =>
 v = tuple #[] ∧ L_slices_pdqsortOrdered_int_1010 data datan datac a b (IntKind.wrap IntKind.i64 (limit - 1)) wasBalanced wasPartitioned (IntKind.wrap IntKind.i64 (b - a)) h K)
 (L_slices_pdqsortOrdered_int_1010 data datan datac a b limit wasBalanced wasPartitioned (IntKind.wrap IntKind.i64 (b - a)) h K)))
theorem L_slices_pdqsortOrdered_int_0r (data : Option Addr) (datan : Nat) (datac : Nat) (a : Int) (b : Int) (limit : Int) (wasBalanced : Bool) (wasPartitioned : Bool) (h : Heap) (K : Value → Heap → Prop) (k : L_slices_pdqsortOrdered_int_0T data datan datac a b limit wasBalanced wasPartitioned h K) : L_slices_pdqsortOrdered_int_0 data datan datac a b limit wasBalanced wasPartitioned h K :=
 LoopAt.of_ev (cs := [10, 15, 17]) Try.func74 mixed (fun junk => by kernel_rfl) k
def L_slices_pdqsortOrdered_int_1010T (data : Option Addr) (datan : Nat) (datac : Nat) (a : Int) (b : Int) (limit : Int) (wasBalanced : Bool) (wasPartitioned : Bool) (length : Int) (h : Heap) (K : Value → Heap → Prop) : Prop :=
 CallA Try.prog fn_slices_choosePivotOrdered_int [slice data datan datac, int IntKind.i64 a, int IntKind.i64 b] h fun (v : Value) (h : Heap) =>
 ∃ (n : Int),
 ∃ (n_1 : Int),
 v = tuple #[int IntKind.i64 n, int IntKind.i64 n_1] ∧
 Br (n_1 == 2)
 (CallA Try.prog fn_slices_reverseRangeOrdered_int [slice data datan datac, int IntKind.i64 a, int IntKind.i64 b] h fun (v : Value) (h : Heap) =>
 v = tuple #[] ∧ L_slices_pdqsortOrdered_int_1015 data datan datac a b limit wasBalanced wasPartitioned length (IntKind.wrap IntKind.i64 (IntKind.wrap IntKind.i64 (b - 1) - IntKind.wrap IntKind.i64 (n - a))) 1 h K)
 (L_slices_pdqsortOrdered_int_1015 data datan datac a b limit wasBalanced wasPartitioned length n n_1 h K)
theorem L_slices_pdqsortOrdered_int_1010r (data : Option Addr) (datan : Nat) (datac : Nat) (a : Int) (b : Int) (limit : Int) (wasBalanced : Bool) (wasPartitioned : Bool) (length : Int) (h : Heap) (K : Value → Heap → Prop) (k : L_slices_pdqsortOrdered_int_1010T data datan datac a b limit wasBalanced wasPartitioned length h K) : L_slices_pdqsortOrdered_int_1010 data datan datac a b limit wasBalanced wasPartitioned length h K :=
 CutAt.of_ev (cs := [10, 15, 17]) Try.func74 mixed (fun junk => by kernel_rfl) k
def L_slices_pdqsortOrdered_int_1015T (data : Option Addr) (datan : Nat) (datac : Nat) (a : Int) (b : Int) (limit : Int) (wasBalanced : Bool) (wasPartitioned : Bool) (length : Int) (pivot : Int) (hint : Int) (h : Heap) (K : Value → Heap → Prop) : Prop :=
 Br wasBalanced
 (Br wasPartitioned
 (Br (hint == 1)
 (CallA Try.prog fn_slices_partialInsertionSortOrdered_int [slice data datan datac, int IntKind.i64 a, int IntKind.i64 b] h fun (v : Value) (h : Heap) =>
 ∃ (b_1 : Bool), v = Value.bool b_1 ∧ Br b_1 (Ret h K (tuple #[])) (L_slices_pdqsortOrdered_int_1017 data datan datac a b limit wasBalanced wasPartitioned length pivot h K))
 (L_slices_pdqsortOrdered_int_1017 data datan datac a b limit wasBalanced wasPartitioned length pivot h K))
 (L_slices_pdqsortOrdered_int_1017 data datan datac a b limit wasBalanced wasPartitioned length pivot h K))
 (L_slices_pdqsortOrdered_int_1017 data datan datac a b limit wasBalanced wasPartitioned length pivot h K)
theorem L_slices_pdqsortOrdered_int_1015r (data : Option Addr) (datan : Nat) (datac : Nat) (a : Int) (b : Int) (limit : Int) (wasBalanced : Bool) (wasPartitioned : Bool) (length : Int) (pivot : Int) (hint : Int) (h : Heap) (K : Value → Heap → Prop) (k : L_slices_pdqsortOrdered_int_1015T data datan datac a b limit wasBalanced wasPartitioned length pivot hint h K) : L_slices_pdqsortOrdered_int_1015 data datan datac a b limit wasBalanced wasPartitioned length pivot hint h K :=
 CutAt.of_ev (cs := [10, 15, 17]) Try.func74 mixed (fun junk => by kernel_rfl) k
def L_slices_pdqsortOrdered_int_1017T (data : Option Addr) (datan : Nat) (datac : Nat) (a : Int) (b : Int) (limit : Int) (wasBalanced : Bool) (wasPartitioned : Bool) (length : Int) (pivot : Int) (h : Heap) (K : Value → Heap → Prop) : Prop :=
 Br (decide (a > 0))
 (0 ≤ IntKind.wrap IntKind.i64 (a - 1) ∧
 IntKind.wrap IntKind.i64 (a - 1) < (↑datan : Int) ∧
 withAddr data fun (b_1 o : Nat) =>
 ∃ (n : Int),
 Heap.cell h b_1 (o + Int.toNat (IntKind.wrap IntKind.i64 (a - 1))) = some (int IntKind.i64 n) ∧
 0 ≤ pivot ∧
 pivot < (↑datan : Int) ∧
 withAddr data fun (b_2 o : Nat) =>
 ∃ (n_1 : Int),
 Heap.cell h b_2 (o + Int.toNat pivot) = some (int IntKind.i64 n_1) ∧
 CallA Try.prog fn_cmp_Less_int [int IntKind.i64 n, int IntKind.i64 n_1] h fun (v : Value) (h : Heap) =>
 ∃ (b_3 : Bool),
 v = Value.bool b_3 ∧
 Br (!b_3)
 (CallA Try.prog fn_slices_partitionEqualOrdered_int [slice data datan datac, int IntKind.i64 a, int IntKind.i64 b, int IntKind.i64 pivot] h fun (v : Value) (h : Heap) =>
 ∃ (n : Int), v = int IntKind.i64 n ∧ L_slices_pdqsortOrdered_int_0 data datan datac n b limit wasBalanced wasPartitioned h K)
 (CallA Try.prog fn_slices_partitionOrdered_int [slice data datan datac, int IntKind.i64 a, int IntKind.i64 b, int IntKind.i64 pivot] h fun (v : Value) (h : Heap) =>
 ∃ (n : Int),
 ∃ (b_4 : Bool),
 v = tuple #[int IntKind.i64 n, Value.bool b_4] ∧
 Br (decide (IntKind.wrap IntKind.i64 (n - a) < IntKind.wrap IntKind.i64 (b - n)))
 (CallA Try.prog fn_slices_pdqsortOrdered_int [slice data datan datac, int IntKind.i64 a, int IntKind.i64 n, int IntKind.i64 limit] h fun (v : Value) (h : Heap) =>
 v = tuple #[] ∧
 L_slices_pdqsortOrdered_int_0 data datan datac (IntKind.wrap IntKind.i64 (n + 1)) b limit (decide (IntKind.wrap IntKind.i64 (n - a) ≥ IntKind.wrap IntKind.i64 (Int.tdiv length 8))) b_4 h K)
 (CallA Try.prog fn_slices_pdqsortOrdered_int [slice data datan datac, int IntKind.i64 (IntKind.wrap IntKind.i64 (n + 1)), int IntKind.i64 b, int IntKind.i64 limit] h fun (v : Value) (h : Heap) =>
 v = tuple #[] ∧ L_slices_pdqsortOrdered_int_0 data datan datac a n limit (decide (IntKind.wrap IntKind.i64 (b - n) ≥ IntKind.wrap IntKind.i64 (Int.tdiv length 8))) b_4 h K)))
 (CallA Try.prog fn_slices_partitionOrdered_int [slice data datan datac, int IntKind.i64 a, int IntKind.i64 b, int IntKind.i64 pivot] h fun (v : Value) (h : Heap) =>
 ∃ (n : Int),
 ∃ (b_1 : Bool),
 v = tuple #[int IntKind.i64 n, Value.bool b_1] ∧
 Br (decide (IntKind.wrap IntKind.i64 (n - a) < IntKind.wrap IntKind.i64 (b - n)))
 (CallA Try.prog fn_slices_pdqsortOrdered_int [slice data datan datac, int IntKind.i64 a, int IntKind.i64 n, int IntKind.i64 limit] h fun (v : Value) (h : Heap) =>
 v = tuple #[] ∧ L_slices_pdqsortOrdered_int_0 data datan datac (IntKind.wrap IntKind.i64 (n + 1)) b limit (decide (IntKind.wrap IntKind.i64 (n - a) ≥ IntKind.wrap IntKind.i64 (Int.tdiv length 8))) b_1 h K)
 (CallA Try.prog fn_slices_pdqsortOrdered_int [slice data datan datac, int IntKind.i64 (IntKind.wrap IntKind.i64 (n + 1)), int IntKind.i64 b, int IntKind.i64 limit] h fun (v : Value) (h : Heap) =>
 v = tuple #[] ∧ L_slices_pdqsortOrdered_int_0 data datan datac a n limit (decide (IntKind.wrap IntKind.i64 (b - n) ≥ IntKind.wrap IntKind.i64 (Int.tdiv length 8))) b_1 h K))
theorem L_slices_pdqsortOrdered_int_1017r (data : Option Addr) (datan : Nat) (datac : Nat) (a : Int) (b : Int) (limit : Int) (wasBalanced : Bool) (wasPartitioned : Bool) (length : Int) (pivot : Int) (h : Heap) (K : Value → Heap → Prop) (k : L_slices_pdqsortOrdered_int_1017T data datan datac a b limit wasBalanced wasPartitioned length pivot h K) : L_slices_pdqsortOrdered_int_1017 data datan datac a b limit wasBalanced wasPartitioned length pivot h K :=
 CutAt.of_ev (cs := [10, 15, 17]) Try.func74 mixed (fun junk => by kernel_rfl) k
def F_slices_pdqsortOrdered_intT (data : Option Addr) (datan : Nat) (datac : Nat) (a : Int) (b : Int) (limit : Int) (h : Heap) (K : Value → Heap → Prop) : Prop :=
 L_slices_pdqsortOrdered_int_0 data datan datac a b limit true true h K
theorem F_slices_pdqsortOrdered_int (data : Option Addr) (datan : Nat) (datac : Nat) (a : Int) (b : Int) (limit : Int) (h : Heap) (K : Value → Heap → Prop) (k : F_slices_pdqsortOrdered_intT data datan datac a b limit h K) : CallA Try.prog fn_slices_pdqsortOrdered_int [slice data datan datac, int IntKind.i64 a, int IntKind.i64 b, int IntKind.i64 limit] h K :=
 CallA.of_ev (cs := [10, 15, 17]) Try.func74 (by kernel_rfl) (fun _ _ => Try.call74 _ _) mixed (by kernel_rfl) (by kernel_rfl) k
end Go.Proofs.Ytjihfieahkbohaa

namespace Go.Proofs.Ytjihfieahkbohaa
open Go Go.Sy Go.Value
set_option linter.unusedVariables false
set_option maxRecDepth 100000
def L_slices_breakPatternsOrdered_int_0 (data : Option Addr) (datan : Nat) (datac : Nat) (a : Int) (length : Int) (random : Nat) (modulus : Int) (idx : Int) (h : Heap) (K : Value → Heap → Prop) : Prop :=
 LoopAt Try.prog Try.f95 95 (loopK Try.f95 0) (sp 65 [(0, slice data datan datac), (1, int IntKind.i64 a), (6, int IntKind.i64 length), (7, pointer (some { block := random, off := 0 })), (8, int IntKind.u64 modulus), (9, int IntKind.i64 idx)]) h K
def L_slices_breakPatternsOrdered_int_0T (data : Option Addr) (datan : Nat) (datac : Nat) (a : Int) (length : Int) (random : Nat) (modulus : Int) (idx : Int) (h : Heap) (K : Value → Heap → Prop) : Prop :=
 Br (decide (idx ≤ IntKind.wrap IntKind.i64 (IntKind.wrap IntKind.i64 (a + IntKind.wrap IntKind.i64 (IntKind.wrap IntKind.i64 (Int.tdiv length 4) * 2)) + 1)))
 (CallA Try.prog fn_pslices_xorshift_Next [pointer (some { block := random, off := 0 })] h fun (v : Value) (h : Heap) =>
 ∃ (n : Int),
 v = int IntKind.u64 n ∧
 Br (decide (IntKind.wrap IntKind.i64 (IntKind.wrap IntKind.u64 (↑(BitVec.toNat (BitVec.ofInt 64 n &&& BitVec.ofInt 64 (IntKind.wrap IntKind.u64 (modulus - 1)))) : Int)) ≥ length))
 (0 ≤
 IntKind.wrap IntKind.i64
 (a + IntKind.wrap IntKind.i64 (IntKind.wrap IntKind.i64 (IntKind.wrap IntKind.u64 (↑(BitVec.toNat (BitVec.ofInt 64 n &&& BitVec.ofInt 64 (IntKind.wrap IntKind.u64 (modulus - 1)))) : Int)) - length)) ∧
 IntKind.wrap IntKind.i64
 (a + IntKind.wrap IntKind.i64 (IntKind.wrap IntKind.i64 (IntKind.wrap IntKind.u64 (↑(BitVec.toNat (BitVec.ofInt 64 n &&& BitVec.ofInt 64 (IntKind.wrap IntKind.u64 (modulus - 1)))) : Int)) - length)) <
 (↑datan : Int) ∧
 withAddr data fun (b o : Nat) =>
 ∃ (n_1 : Int),
 Heap.cell h b
 (o +
 Int.toNat
 (IntKind.wrap IntKind.i64
 (a +
 IntKind.wrap IntKind.i64
 (IntKind.wrap IntKind.i64 (IntKind.wrap IntKind.u64 (↑(BitVec.toNat (BitVec.ofInt 64 n &&& BitVec.ofInt 64 (IntKind.wrap IntKind.u64 (modulus - 1)))) : Int)) - length)))) =
 some (int IntKind.i64 n_1) ∧
 0 ≤ idx ∧
 idx < (↑datan : Int) ∧
 withAddr data fun (b o : Nat) =>
 ∃ (n_2 : Int),
 Heap.cell h b (o + Int.toNat idx) = some (int IntKind.i64 n_2) ∧
 0 ≤ idx ∧
 idx < (↑datan : Int) ∧
 withAddr data fun (b o : Nat) =>
 Heap.canSt h b (o + Int.toNat idx) 1 ∧
 0 ≤
 IntKind.wrap IntKind.i64
 (a +
 IntKind.wrap IntKind.i64
 (IntKind.wrap IntKind.i64 (IntKind.wrap IntKind.u64 (↑(BitVec.toNat (BitVec.ofInt 64 n &&& BitVec.ofInt 64 (IntKind.wrap IntKind.u64 (modulus - 1)))) : Int)) - length)) ∧
 IntKind.wrap IntKind.i64
 (a +
 IntKind.wrap IntKind.i64
 (IntKind.wrap IntKind.i64 (IntKind.wrap IntKind.u64 (↑(BitVec.toNat (BitVec.ofInt 64 n &&& BitVec.ofInt 64 (IntKind.wrap IntKind.u64 (modulus - 1)))) : Int)) - length)) <
 (↑datan : Int) ∧
 withAddr data fun (b_1 o_1 : Nat) =>
 Heap.canSt (Heap.setN h b (o + Int.toNat idx) [int IntKind.i64 n_1]) b_1
 (o_1 +
 Int.toNat
 (IntKind.wrap IntKind.i64
 (a +
 IntKind.wrap IntKind.i64
 (IntKind.wrap IntKind.i64 (IntKind.wrap IntKind.u64 (↑(BitVec.toNat (BitVec.ofInt 64 n &&& BitVec.ofInt 64 (IntKind.wrap IntKind.u64 (modulus - 1)))) : Int)) -
 length))))
 1 ∧
 L_slices_breakPatternsOrdered_int_0 data datan datac a length random modulus (IntKind.wrap IntKind.i64 (idx + 1))
 (Heap.setN (Heap.setN h b (o + Int.toNat idx) [int IntKind.i64 n_1]) b_1
 (o_1 +
 Int.toNat
 (IntKind.wrap IntKind.i64
 (a +
 IntKind.wrap IntKind.i64
 (IntKind.wrap IntKind.i64 (IntKind.wrap IntKind.u64 (↑(BitVec.toNat (BitVec.ofInt 64 n &&& BitVec.ofInt 64 (IntKind.wrap IntKind.u64 (modulus - 1)))) : Int)) -
 length))))
 [int IntKind.i64 n_2])
 K)
 (0 ≤ IntKind.wrap IntKind.i64 (a + IntKind.wrap IntKind.i64 (IntKind.wrap IntKind.u64 (↑(BitVec.toNat (BitVec.ofInt 64 n &&& BitVec.ofInt 64 (IntKind.wrap IntKind.u64 (modulus - 1)))) : Int))) ∧
 IntKind.wrap IntKind.i64 (a + IntKind.wrap IntKind.i64 (IntKind.wrap IntKind.u64 (↑(BitVec.toNat (BitVec.ofInt 64 n &&& BitVec.ofInt 64 (IntKind.wrap IntKind.u64 (modulus - 1)))) : Int))) < (↑datan : Int) ∧
 withAddr data fun (b o : Nat) =>
 ∃ (n_1 : Int),
 Heap.cell h b
 (o +
 Int.toNat
 (IntKind.wrap IntKind.i64 (a + IntKind.wrap IntKind.i64 (IntKind.wrap IntKind.u64 (↑(BitVec.toNat (BitVec.ofInt 64 n &&& BitVec.ofInt 64 (IntKind.wrap IntKind.u64 (modulus - 1)))) : Int))))) =
 some (int IntKind.i64 n_1) ∧
 0 ≤ idx ∧
 idx < (↑datan : Int) ∧
 withAddr data fun (b o : Nat) =>
 ∃ (n_2 : Int),
 Heap.cell h b (o + Int.toNat idx) = some (int IntKind.i64 n_2) ∧
 0 ≤ idx ∧
 idx < (↑datan : Int) ∧
 withAddr data fun (b o : Nat) =>
 Heap.canSt h b (o + Int.toNat idx) 1 ∧
 0 ≤
 IntKind.wrap IntKind.i64
 (a + IntKind.wrap IntKind.i64 (IntKind.wrap IntKind.u64 (↑(BitVec.toNat (BitVec.ofInt 64 n &&& BitVec.ofInt 64 (IntKind.wrap IntKind.u64 (modulus - 1)))) : Int))) ∧
 IntKind.wrap IntKind.i64
 (a + IntKind.wrap IntKind.i64 (IntKind.wrap IntKind.u64 (↑(BitVec.toNat (BitVec.ofInt 64 n &&& BitVec.ofInt 64 (IntKind.wrap IntKind.u64 (modulus - 1)))) : Int))) <
 (↑datan : Int) ∧
 withAddr data fun (b_1 o_1 : Nat) =>
 Heap.canSt (Heap.setN h b (o + Int.toNat idx) [int IntKind.i64 n_1]) b_1
 (o_1 +
 Int.toNat
 (IntKind.wrap IntKind.i64
 (a + IntKind.wrap IntKind.i64 (IntKind.wrap IntKind.u64 (↑(BitVec.toNat (BitVec.ofInt 64 n &&& BitVec.ofInt 64 (IntKind.wrap IntKind.u64 (modulus - 1)))) : Int)))))
 1 ∧
 L_slices_breakPatternsOrdered_int_0 data datan datac a length random modulus (IntKind.wrap IntKind.i64 (idx + 1))
 (Heap.setN (Heap.setN h b (o + Int.toNat idx) [int IntKind.i64 n_1]) b_1
 (o_1 +
 Int.toNat
 (IntKind.wrap IntKind.i64
 (a + IntKind.wrap IntKind.i64 (IntKind.wrap IntKind.u64 (↑(BitVec.toNat (BitVec.ofInt 64 n &&& BitVec.ofInt 64 (IntKind.wrap IntKind.u64 (modulus - 1)))) : Int)))))
 [int IntKind.i64 n_2])
 K))
 (Ret h K (tuple #[]))
theorem L_slices_breakPatternsOrdered_int_0r (data : Option Addr) (datan : Nat) (datac : Nat) (a : Int) (length : Int) (random : Nat) (modulus : Int) (idx : Int) (h : Heap) (K : Value → Heap → Prop) (k : L_slices_breakPatternsOrdered_int_0T data datan datac a length random modulus idx h K) : L_slices_breakPatternsOrdered_int_0 data datan datac a length random modulus idx h K :=
 LoopAt.of_ev (cs := []) Try.func95 mixed (fun junk => by kernel_rfl) k
def F_slices_breakPatternsOrdered_intT (data : Option Addr) (datan : Nat) (datac : Nat) (a : Int) (b : Int) (h : Heap) (K : Value → Heap → Prop) : Prop :=
 Br (decide (IntKind.wrap IntKind.i64 (b - a) ≥ 8))
 (newB h [int IntKind.u64 0] 165 fun (r : Nat) (h : Heap) =>
 Heap.canSt h r 0 1 ∧
 CallA Try.prog fn_slices_nextPowerOfTwo [int IntKind.i64 (IntKind.wrap IntKind.i64 (b - a))] (Heap.setN h r 0 [int IntKind.u64 (IntKind.wrap IntKind.u64 (IntKind.wrap IntKind.i64 (b - a)))]) fun (v : Value) (h : Heap) =>
 ∃ (n : Int),
 v = int IntKind.u64 n ∧
 L_slices_breakPatternsOrdered_int_0 data datan datac a (IntKind.wrap IntKind.i64 (b - a)) r n
 (IntKind.wrap IntKind.i64 (IntKind.wrap IntKind.i64 (a + IntKind.wrap IntKind.i64 (IntKind.wrap IntKind.i64 (Int.tdiv (IntKind.wrap IntKind.i64 (b - a)) 4) * 2)) - 1)) h K)
 (Ret h K (tuple #[]))
theorem F_slices_breakPatternsOrdered_int (data : Option Addr) (datan : Nat) (datac : Nat) (a : Int) (b : Int) (h : Heap) (K : Value → Heap → Prop) (k : F_slices_breakPatternsOrdered_intT data datan datac a b h K) : CallA Try.prog fn_slices_breakPatternsOrdered_int [slice data datan datac, int IntKind.i64 a, int IntKind.i64 b] h K :=
 CallA.of_ev (cs := []) Try.func95 (by kernel_rfl) (fun _ _ => Try.call95 _ _) mixed (by kernel_rfl) (by kernel_rfl) k
def F_slices_choosePivotOrdered_intT (data : Option Addr) (datan : Nat) (datac : Nat) (a : Int) (b : Int) (h : Heap) (K : Value → Heap → Prop) : Prop :=
 newB h [int IntKind.i64 0] 3 fun (r : Nat) (h : Heap) =>
 Br (decide (IntKind.wrap IntKind.i64 (b - a) ≥ 8))
 (Br (decide (IntKind.wrap IntKind.i64 (b - a) ≥ 50))
 (CallA Try.prog 118
 [slice data datan datac, int IntKind.i64 (IntKind.wrap IntKind.i64 (a + IntKind.wrap IntKind.i64 (IntKind.wrap IntKind.i64 (Int.tdiv (IntKind.wrap IntKind.i64 (b - a)) 4) * 1))),
 pointer (some { block := r, off := 0 })]
 h fun (v : Value) (h : Heap) =>
 ∃ (n : Int),
 v = int IntKind.i64 n ∧
 CallA Try.prog 118
 [slice data datan datac, int IntKind.i64 (IntKind.wrap IntKind.i64 (a + IntKind.wrap IntKind.i64 (IntKind.wrap IntKind.i64 (Int.tdiv (IntKind.wrap IntKind.i64 (b - a)) 4) * 2))),
 pointer (some { block := r, off := 0 })]
 h fun (v : Value) (h : Heap) =>
 ∃ (n_1 : Int),
 v = int IntKind.i64 n_1 ∧
 CallA Try.prog 118
 [slice data datan datac, int IntKind.i64 (IntKind.wrap IntKind.i64 (a + IntKind.wrap IntKind.i64 (IntKind.wrap IntKind.i64 (Int.tdiv (IntKind.wrap IntKind.i64 (b - a)) 4) * 3))),
 pointer (some { block := r, off := 0 })]
 h fun (v : Value) (h : Heap) =>
 ∃ (n_2 : Int),
 v = int IntKind.i64 n_2 ∧
 CallA Try.prog fn_slices_medianOrdered_int [slice data datan datac, int IntKind.i64 n, int IntKind.i64 n_1, int IntKind.i64 n_2, pointer (some { block := r, off := 0 })] h fun (v : Value) (h : Heap) =>
 ∃ (n : Int),
 v = int IntKind.i64 n ∧
 ∃ (n_3 : Int),
 Heap.cell h r 0 = some (int IntKind.i64 n_3) ∧
 Br (n_3 == 0) (Ret h K (tuple #[int IntKind.i64 n, int IntKind.i64 1]))
 (Br (n_3 == 12) (Ret h K (tuple #[int IntKind.i64 n, int IntKind.i64 2])) (Ret h K (tuple #[int IntKind.i64 n, int IntKind.i64 0]))))
 (CallA Try.prog 119
 [slice data datan datac, int IntKind.i64 (IntKind.wrap IntKind.i64 (a + IntKind.wrap IntKind.i64 (IntKind.wrap IntKind.i64 (Int.tdiv (IntKind.wrap IntKind.i64 (b - a)) 4) * 1))),
 int IntKind.i64 (IntKind.wrap IntKind.i64 (a + IntKind.wrap IntKind.i64 (IntKind.wrap IntKind.i64 (Int.tdiv (IntKind.wrap IntKind.i64 (b - a)) 4) * 2))),
 int IntKind.i64 (IntKind.wrap IntKind.i64 (a + IntKind.wrap IntKind.i64 (IntKind.wrap IntKind.i64 (Int.tdiv (IntKind.wrap IntKind.i64 (b - a)) 4) * 3))), pointer (some { block := r, off := 0 })]
 h fun (v : Value) (h : Heap) =>
 ∃ (n : Int),
 v = int IntKind.i64 n ∧
 ∃ (n_1 : Int),
 Heap.cell h r 0 = some (int IntKind.i64 n_1) ∧
 Br (n_1 == 0) (Ret h K (tuple #[int IntKind.i64 n, int IntKind.i64 1]))
 (Br (n_1 == 12) (Ret h K (tuple #[int IntKind.i64 n, int IntKind.i64 2])) (Ret h K (tuple #[int IntKind.i64 n, int IntKind.i64 0])))))
 (∃ (n : Int),
 Heap.cell h r 0 = some (int IntKind.i64 n) ∧
 Br (n == 0) (Ret h K (tuple #[int IntKind.i64 (IntKind.wrap IntKind.i64 (a + IntKind.wrap IntKind.i64 (IntKind.wrap IntKind.i64 (Int.tdiv (IntKind.wrap IntKind.i64 (b - a)) 4) * 2))), int IntKind.i64 1]))
 (Br (n == 12) (Ret h K (tuple #[int IntKind.i64 (IntKind.wrap IntKind.i64 (a + IntKind.wrap IntKind.i64 (IntKind.wrap IntKind.i64 (Int.tdiv (IntKind.wrap IntKind.i64 (b - a)) 4) * 2))), int IntKind.i64 2]))
 (Ret h K (tuple #[int IntKind.i64 (IntKind.wrap IntKind.i64 (a + IntKind.wrap IntKind.i64 (IntKind.wrap IntKind.i64 (Int.tdiv (IntKind.wrap IntKind.i64 (b - a)) 4) * 2))), int IntKind.i64 0]))))
theorem F_slices_choosePivotOrdered_int (data : Option Addr) (datan : Nat) (datac : Nat) (a : Int) (b : Int) (h : Heap) (K : Value → Heap → Prop) (k : F_slices_choosePivotOrdered_intT data datan datac a b h K) : CallA Try.prog fn_slices_choosePivotOrdered_int [slice data datan datac, int IntKind.i64 a, int IntKind.i64 b] h K :=
 CallA.of_ev (cs := []) Try.func96 (by kernel_rfl) (fun _ _ => Try.call96 _ _) mixed (by kernel_rfl) (by kernel_rfl) k
def F_slices_order2Ordered_intT (data : Option Addr) (datan : Nat) (datac : Nat) (a : Int) (b : Int) (swaps : Option Addr) (h : Heap) (K : Value → Heap → Prop) : Prop :=
 0 ≤ b ∧
 b < (↑datan : Int) ∧
 withAddr data fun (b_1 o : Nat) =>
 ∃ (n : Int),
 Heap.cell h b_1 (o + Int.toNat b) = some (int IntKind.i64 n) ∧
 0 ≤ a ∧
 a < (↑datan : Int) ∧
 withAddr data fun (b_2 o : Nat) =>
 ∃ (n_1 : Int),
 Heap.cell h b_2 (o + Int.toNat a) = some (int IntKind.i64 n_1) ∧
 CallA Try.prog fn_cmp_Less_int [int IntKind.i64 n, int IntKind.i64 n_1] h fun (v : Value) (h : Heap) =>
 ∃ (b_3 : Bool),
 v = Value.bool b_3 ∧
 Br b_3
 (withAddr swaps fun (b_4 o : Nat) =>
 ∃ (n : Int),
 Heap.cell h b_4 o = some (int IntKind.i64 n) ∧
 withAddr swaps fun (b_5 o : Nat) => Heap.canSt h b_5 o 1 ∧ Ret (Heap.setN h b_5 o [int IntKind.i64 (IntKind.wrap IntKind.i64 (n + 1))]) K (tuple #[int IntKind.i64 b, int IntKind.i64 a]))
 (Ret h K (tuple #[int IntKind.i64 a, int IntKind.i64 b]))
theorem F_slices_order2Ordered_int (data : Option Addr) (datan : Nat) (datac : Nat) (a : Int) (b : Int) (swaps : Option Addr) (h : Heap) (K : Value → Heap → Prop) (k : F_slices_order2Ordered_intT data datan datac a b swaps h K) : CallA Try.prog fn_slices_order2Ordered_int [slice data datan datac, int IntKind.i64 a, int IntKind.i64 b, pointer swaps] h K :=
 CallA.of_ev (cs := []) Try.func131 (by kernel_rfl) (fun _ _ => Try.call131 _ _) mixed (by kernel_rfl) (by kernel_rfl) k
def F_slices_medianOrdered_intT (data : Option Addr) (datan : Nat) (datac : Nat) (a : Int) (b : Int) (c : Int) (swaps : Option Addr) (h : Heap) (K : Value → Heap → Prop) : Prop :=
 CallA Try.prog fn_slices_order2Ordered_int [slice data datan datac, int IntKind.i64 a, int IntKind.i64 b, pointer swaps] h fun (v : Value) (h : Heap) =>
 ∃ (n : Int),
 ∃ (n_1 : Int),
 v = tuple #[int IntKind.i64 n, int IntKind.i64 n_1] ∧
 CallA Try.prog fn_slices_order2Ordered_int [slice data datan datac, int IntKind.i64 n_1, int IntKind.i64 c, pointer swaps] h fun (v : Value) (h : Heap) =>
 ∃ (n_2 : Int),
 ∃ (n_3 : Int),
 v = tuple #[int IntKind.i64 n_2, int IntKind.i64 n_3] ∧
 CallA Try.prog fn_slices_order2Ordered_int [slice data datan datac, int IntKind.i64 n, int IntKind.i64 n_2, pointer swaps] h fun (v : Value) (h : Heap) =>
 ∃ (n : Int), ∃ (n_4 : Int), v = tuple #[int IntKind.i64 n, int IntKind.i64 n_4] ∧ Ret h K (int IntKind.i64 n_4)
theorem F_slices_medianOrdered_int (data : Option Addr) (datan : Nat) (datac : Nat) (a : Int) (b : Int) (c : Int) (swaps : Option Addr) (h : Heap) (K : Value → Heap → Prop) (k : F_slices_medianOrdered_intT data datan datac a b c swaps h K) : CallA Try.prog fn_slices_medianOrdered_int [slice data datan datac, int IntKind.i64 a, int IntKind.i64 b, int IntKind.i64 c, pointer swaps] h K :=
 CallA.of_ev (cs := []) Try.func119 (by kernel_rfl) (fun _ _ => Try.call119 _ _) mixed (by kernel_rfl) (by kernel_rfl) k
def F_slices_medianAdjacentOrdered_intT (data : Option Addr) (datan : Nat) (datac : Nat) (a : Int) (swaps : Option Addr) (h : Heap) (K : Value → Heap → Prop) : Prop :=
 CallA Try.prog fn_slices_medianOrdered_int [slice data datan datac, int IntKind.i64 (IntKind.wrap IntKind.i64 (a - 1)), int IntKind.i64 a, int IntKind.i64 (IntKind.wrap IntKind.i64 (a + 1)), pointer swaps] h fun (v : Value) (h : Heap) =>
 ∃ (n : Int), v = int IntKind.i64 n ∧ Ret h K (int IntKind.i64 n)
theorem F_slices_medianAdjacentOrdered_int (data : Option Addr) (datan : Nat) (datac : Nat) (a : Int) (swaps : Option Addr) (h : Heap) (K : Value → Heap → Prop) (k : F_slices_medianAdjacentOrdered_intT data datan datac a swaps h K) : CallA Try.prog fn_slices_medianAdjacentOrdered_int [slice data datan datac, int IntKind.i64 a, pointer swaps] h K :=
 CallA.of_ev (cs := []) Try.func118 (by kernel_rfl) (fun _ _ => Try.call118 _ _) mixed (by kernel_rfl) (by kernel_rfl) k
end Go.Proofs.Ytjihfieahkbohaa

namespace Go.Proofs.Ytjihfieahkbohaa
open Go Go.Sy Go.Value
set_option linter.unusedVariables false
set_option maxRecDepth 100000
def L_slices_partitionOrdered_int_0 (data : Option Addr) (datan : Nat) (datac : Nat) (a : Int) (i : Int) (j : Int) (h : Heap) (K : Value → Heap → Prop) : Prop :=
 LoopAt Try.prog Try.f101 101 (loopK Try.f101 0) (sp 168 [(0, slice data datan datac), (1, int IntKind.i64 a), (10, int IntKind.i64 i), (11, int IntKind.i64 j)]) h K
def L_slices_partitionOrdered_int_1 (data : Option Addr) (datan : Nat) (datac : Nat) (a : Int) (i : Int) (j : Int) (h : Heap) (K : Value → Heap → Prop) : Prop :=
 LoopAt Try.prog Try.f101 101 (loopK Try.f101 1) (sp 168 [(0, slice data datan datac), (1, int IntKind.i64 a), (10, int IntKind.i64 i), (11, int IntKind.i64 j)]) h K
def L_slices_partitionOrdered_int_2 (data : Option Addr) (datan : Nat) (datac : Nat) (a : Int) (i : Int) (j : Int) (h : Heap) (K : Value → Heap → Prop) : Prop :=
 LoopAt Try.prog Try.f101 101 (loopK Try.f101 2) (sp 168 [(0, slice data datan datac), (1, int IntKind.i64 a), (10, int IntKind.i64 i), (11, int IntKind.i64 j)]) h K
def L_slices_partitionOrdered_int_3 (data : Option Addr) (datan : Nat) (datac : Nat) (a : Int) (i : Int) (j : Int) (h : Heap) (K : Value → Heap → Prop) : Prop :=
 LoopAt Try.prog Try.f101 101 (loopK Try.f101 3) (sp 168 [(0, slice data datan datac), (1, int IntKind.i64 a), (10, int IntKind.i64 i), (11, int IntKind.i64 j)]) h K
def L_slices_partitionOrdered_int_4 (data : Option Addr) (datan : Nat) (datac : Nat) (a : Int) (i : Int) (j : Int) (h : Heap) (K : Value → Heap → Prop) : Prop :=
 LoopAt Try.prog Try.f101 101 (loopK Try.f101 4) (sp 168 [(0, slice data datan datac), (1, int IntKind.i64 a), (10, int IntKind.i64 i), (11, int IntKind.i64 j)]) h K
def L_slices_partitionOrdered_int_0T (data : Option Addr) (datan : Nat) (datac : Nat) (a : Int) (i : Int) (j : Int) (h : Heap) (K : Value → Heap → Prop) : Prop :=
 Br (decide (i ≤ j))
 (0 ≤ i ∧
 i < (↑datan : Int) ∧
 withAddr data fun (b o : Nat) =>
 ∃ (n : Int),
 Heap.cell h b (o + Int.toNat i) = some (int IntKind.i64 n) ∧
 0 ≤ a ∧
 a < (↑datan : Int) ∧
 withAddr data fun (b o : Nat) =>
 ∃ (n_1 : Int),
 Heap.cell h b (o + Int.toNat a) = some (int IntKind.i64 n_1) ∧
 CallA Try.prog fn_cmp_Less_int [int IntKind.i64 n, int IntKind.i64 n_1] h fun (v : Value) (h : Heap) =>
 ∃ (b : Bool), v = Value.bool b ∧ Br b (L_slices_partitionOrdered_int_0 data datan datac a (IntKind.wrap IntKind.i64 (i + 1)) j h K) (L_slices_partitionOrdered_int_1 data datan datac a i j h K))
 (L_slices_partitionOrdered_int_1 data datan datac a i j h K)
theorem L_slices_partitionOrdered_int_0r (data : Option Addr) (datan : Nat) (datac : Nat) (a : Int) (i : Int) (j : Int) (h : Heap) (K : Value → Heap → Prop) (k : L_slices_partitionOrdered_int_0T data datan datac a i j h K) : L_slices_partitionOrdered_int_0 data datan datac a i j h K :=
 LoopAt.of_ev (cs := []) Try.func101 mixed (fun junk => by kernel_rfl) k
def L_slices_partitionOrdered_int_1T (data : Option Addr) (datan : Nat) (datac : Nat) (a : Int) (i : Int) (j : Int) (h : Heap) (K : Value → Heap → Prop) : Prop :=
 Br (decide (i ≤ j))
 (0 ≤ j ∧
 j < (↑datan : Int) ∧
 withAddr data fun (b o : Nat) =>
 ∃ (n : Int),
 Heap.cell h b (o + Int.toNat j) = some (int IntKind.i64 n) ∧
 0 ≤ a ∧
 a < (↑datan : Int) ∧
 withAddr data fun (b o : Nat) =>
 ∃ (n_1 : Int),
 Heap.cell h b (o + Int.toNat a) = some (int IntKind.i64 n_1) ∧
 CallA Try.prog fn_cmp_Less_int [int IntKind.i64 n, int IntKind.i64 n_1] h fun (v : Value) (h : Heap) =>
 ∃ (b : Bool),
 v = Value.bool b ∧
 Br (!b) (L_slices_partitionOrdered_int_1 data datan datac a i (IntKind.wrap IntKind.i64 (j - 1)) h K)
 (Br (decide (i > j))
 (0 ≤ a ∧
 a < (↑datan : Int) ∧
 withAddr data fun (b o : Nat) =>
 ∃ (n : Int),
 Heap.cell h b (o + Int.toNat a) = some (int IntKind.i64 n) ∧
 0 ≤ j ∧
 j < (↑datan : Int) ∧
 withAddr data fun (b o : Nat) =>
 ∃ (n_2 : Int),
 Heap.cell h b (o + Int.toNat j) = some (int IntKind.i64 n_2) ∧
 0 ≤ j ∧
 j < (↑datan : Int) ∧
 withAddr data fun (b o : Nat) =>
 Heap.canSt h b (o + Int.toNat j) 1 ∧
 0 ≤ a ∧
 a < (↑datan : Int) ∧
 withAddr data fun (b_1 o_1 : Nat) =>
 Heap.canSt (Heap.setN h b (o + Int.toNat j) [int IntKind.i64 n]) b_1 (o_1 + Int.toNat a) 1 ∧
 Ret (Heap.setN (Heap.setN h b (o + Int.toNat j) [int IntKind.i64 n]) b_1 (o_1 + Int.toNat a) [int IntKind.i64 n_2]) K
 (tuple #[int IntKind.i64 j, Value.bool true]))
 (0 ≤ j ∧
 j < (↑datan : Int) ∧
 withAddr data fun (b o : Nat) =>
 ∃ (n : Int),
 Heap.cell h b (o + Int.toNat j) = some (int IntKind.i64 n) ∧
 0 ≤ i ∧
 i < (↑datan : Int) ∧
 withAddr data fun (b o : Nat) =>
 ∃ (n_2 : Int),
 Heap.cell h b (o + Int.toNat i) = some (int IntKind.i64 n_2) ∧
 0 ≤ i ∧
 i < (↑datan : Int) ∧
 withAddr data fun (b o : Nat) =>
 Heap.canSt h b (o + Int.toNat i) 1 ∧
 0 ≤ j ∧
 j < (↑datan : Int) ∧
 withAddr data fun (b_1 o_1 : Nat) =>
 Heap.canSt (Heap.setN h b (o + Int.toNat i) [int IntKind.i64 n]) b_1 (o_1 + Int.toNat j) 1 ∧
 L_slices_partitionOrdered_int_2 data datan datac a (IntKind.wrap IntKind.i64 (i + 1)) (IntKind.wrap IntKind.i64 (j - 1))
 (Heap.setN (Heap.setN h b (o + Int.toNat i) [int IntKind.i64 n]) b_1 (o_1 + Int.toNat j) [int IntKind.i64 n_2]) K)))
 (Br (decide (i > j))
 (0 ≤ a ∧
 a < (↑datan : Int) ∧
 withAddr data fun (b o : Nat) =>
 ∃ (n : Int),
 Heap.cell h b (o + Int.toNat a) = some (int IntKind.i64 n) ∧
 0 ≤ j ∧
 j < (↑datan : Int) ∧
 withAddr data fun (b o : Nat) =>
 ∃ (n_1 : Int),
 Heap.cell h b (o + Int.toNat j) = some (int IntKind.i64 n_1) ∧
 0 ≤ j ∧
 j < (↑datan : Int) ∧
 withAddr data fun (b o : Nat) =>
 Heap.canSt h b (o + Int.toNat j) 1 ∧
 0 ≤ a ∧
 a < (↑datan : Int) ∧
 withAddr data fun (b_1 o_1 : Nat) =>
 Heap.canSt (Heap.setN h b (o + Int.toNat j) [int IntKind.i64 n]) b_1 (o_1 + Int.toNat a) 1 ∧
 Ret (Heap.setN (Heap.setN h b (o + Int.toNat j) [int IntKind.i64 n]) b_1 (o_1 + Int.toNat a) [int IntKind.i64 n_1]) K (tuple #[int IntKind.i64 j, Value.bool true]))
 (0 ≤ j ∧
 j < (↑datan : Int) ∧
 withAddr data fun (b o : Nat) =>
 ∃ (n : Int),
 Heap.cell h b (o + Int.toNat j) = some (int IntKind.i64 n) ∧
 0 ≤ i ∧
 i < (↑datan : Int) ∧
 withAddr data fun (b o : Nat) =>
 ∃ (n_1 : Int),
 Heap.cell h b (o + Int.toNat i) = some (int IntKind.i64 n_1) ∧
 0 ≤ i ∧
 i < (↑datan : Int) ∧
 withAddr data fun (b o : Nat) =>
 Heap.canSt h b (o + Int.toNat i) 1 ∧
 0 ≤ j ∧
 j < (↑datan : Int) ∧
 withAddr data fun (b_1 o_1 : Nat) =>
 Heap.canSt (Heap.setN h b (o + Int.toNat i) [int IntKind.i64 n]) b_1 (o_1 + Int.toNat j) 1 ∧
 L_slices_partitionOrdered_int_2 data datan datac a (IntKind.wrap IntKind.i64 (i + 1)) (IntKind.wrap IntKind.i64 (j - 1))
 (Heap.setN (Heap.setN h b (o + Int.toNat i) [int IntKind.i64 n]) b_1 (o_1 + Int.toNat j) [int IntKind.i64 n_1]) K))
theorem L_slices_partitionOrdered_int_1r (data : Option Addr) (datan : Nat) (datac : Nat) (a : Int) (i : Int) (j : Int) (h : Heap) (K : Value → Heap → Prop) (k : L_slices_partitionOrdered_int_1T data datan datac a i j h K) : L_slices_partitionOrdered_int_1 data datan datac a i j h K :=
 LoopAt.of_ev (cs := []) Try.func101 mixed (fun junk => by kernel_rfl) k
def L_slices_partitionOrdered_int_2T (data : Option Addr) (datan : Nat) (datac : Nat) (a : Int) (i : Int) (j : Int) (h : Heap) (K : Value → Heap → Prop) : Prop :=
 L_slices_partitionOrdered_int_3 data datan datac a i j h K
theorem L_slices_partitionOrdered_int_2r (data : Option Addr) (datan : Nat) (datac : Nat) (a : Int) (i : Int) (j : Int) (h : Heap) (K : Value → Heap → Prop) (k : L_slices_partitionOrdered_int_2T data datan datac a i j h K) : L_slices_partitionOrdered_int_2 data datan datac a i j h K :=
 LoopAt.of_ev (cs := []) Try.func101 mixed (fun junk => by kernel_rfl) k
def L_slices_partitionOrdered_int_3T (data : Option Addr) (datan : Nat) (datac : Nat) (a : Int) (i : Int) (j : Int) (h : Heap) (K : Value → Heap → Prop) : Prop :=
 Br (decide (i ≤ j))
 (0 ≤ i ∧
 i < (↑datan : Int) ∧
 withAddr data fun (b o : Nat) =>
 ∃ (n : Int),
 Heap.cell h b (o + Int.toNat i) = some (int IntKind.i64 n) ∧
 0 ≤ a ∧
 a < (↑datan : Int) ∧
 withAddr data fun (b o : Nat) =>
 ∃ (n_1 : Int),
 Heap.cell h b (o + Int.toNat a) = some (int IntKind.i64 n_1) ∧
 CallA Try.prog fn_cmp_Less_int [int IntKind.i64 n, int IntKind.i64 n_1] h fun (v : Value) (h : Heap) =>
 ∃ (b : Bool), v = Value.bool b ∧ Br b (L_slices_partitionOrdered_int_3 data datan datac a (IntKind.wrap IntKind.i64 (i + 1)) j h K) (L_slices_partitionOrdered_int_4 data datan datac a i j h K))
 (L_slices_partitionOrdered_int_4 data datan datac a i j h K)
theorem L_slices_partitionOrdered_int_3r (data : Option Addr) (datan : Nat) (datac : Nat) (a : Int) (i : Int) (j : Int) (h : Heap) (K : Value → Heap → Prop) (k : L_slices_partitionOrdered_int_3T data datan datac a i j h K) : L_slices_partitionOrdered_int_3 data datan datac a i j h K :=
 LoopAt.of_ev (cs := []) Try.func101 mixed (fun junk => by kernel_rfl) k
def L_slices_partitionOrdered_int_4T (data : Option Addr) (datan : Nat) (datac : Nat) (a : Int) (i : Int) (j : Int) (h : Heap) (K : Value → Heap → Prop) : Prop :=
 Br (decide (i ≤ j))
 (0 ≤ j ∧
 j < (↑datan : Int) ∧
 withAddr data fun (b o : Nat) =>
 ∃ (n : Int),
 Heap.cell h b (o + Int.toNat j) = some (int IntKind.i64 n) ∧
 0 ≤ a ∧
 a < (↑datan : Int) ∧
 withAddr data fun (b o : Nat) =>
 ∃ (n_1 : Int),
 Heap.cell h b (o + Int.toNat a) = some (int IntKind.i64 n_1) ∧
 CallA Try.prog fn_cmp_Less_int [int IntKind.i64 n, int IntKind.i64 n_1] h fun (v : Value) (h : Heap) =>
 ∃ (b : Bool),
 v = Value.bool b ∧
 Br (!b) (L_slices_partitionOrdered_int_4 data datan datac a i (IntKind.wrap IntKind.i64 (j - 1)) h K)
 (Br (decide (i > j))
 (0 ≤ a ∧
 a < (↑datan : Int) ∧
 withAddr data fun (b o : Nat) =>
 ∃ (n : Int),
 Heap.cell h b (o + Int.toNat a) = some (int IntKind.i64 n) ∧
 0 ≤ j ∧
 j < (↑datan : Int) ∧
 withAddr data fun (b o : Nat) =>
 ∃ (n_2 : Int),
 Heap.cell h b (o + Int.toNat j) = some (int IntKind.i64 n_2) ∧
 0 ≤ j ∧
 j < (↑datan : Int) ∧
 withAddr data fun (b o : Nat) =>
 Heap.canSt h b (o + Int.toNat j) 1 ∧
 0 ≤ a ∧
 a < (↑datan : Int) ∧
 withAddr data fun (b_1 o_1 : Nat) =>
 Heap.canSt (Heap.setN h b (o + Int.toNat j) [int IntKind.i64 n]) b_1 (o_1 + Int.toNat a) 1 ∧
 Ret (Heap.setN (Heap.setN h b (o + Int.toNat j) [int IntKind.i64 n]) b_1 (o_1 + Int.toNat a) [int IntKind.i64 n_2]) K
 (tuple #[int IntKind.i64 j, Value.bool false]))
 (0 ≤ j ∧
 j < (↑datan : Int) ∧
 withAddr data fun (b o : Nat) =>
 ∃ (n : Int),
 Heap.cell h b (o + Int.toNat j) = some (int IntKind.i64 n) ∧
 0 ≤ i ∧
 i < (↑datan : Int) ∧
 withAddr data fun (b o : Nat) =>
 ∃ (n_2 : Int),
 Heap.cell h b (o + Int.toNat i) = some (int IntKind.i64 n_2) ∧
 0 ≤ i ∧
 i < (↑datan : Int) ∧
 withAddr data fun (b o : Nat) =>
 Heap.canSt h b (o + Int.toNat i) 1 ∧
 0 ≤ j ∧
 j < (↑datan : Int) ∧
 withAddr data fun (b_1 o_1 : Nat) =>
 Heap.canSt (Heap.setN h b (o + Int.toNat i) [int IntKind.i64 n]) b_1 (o_1 + Int.toNat j) 1 ∧
 L_slices_partitionOrdered_int_2 data datan datac a (IntKind.wrap IntKind.i64 (i + 1)) (IntKind.wrap IntKind.i64 (j - 1))
 (Heap.setN (Heap.setN h b (o + Int.toNat i) [int IntKind.i64 n]) b_1 (o_1 + Int.toNat j) [int IntKind.i64 n_2]) K)))
 (Br (decide (i > j))
 (0 ≤ a ∧
 a < (↑datan : Int) ∧
 withAddr data fun (b o : Nat) =>
 ∃ (n : Int),
 Heap.cell h b (o + Int.toNat a) = some (int IntKind.i64 n) ∧
 0 ≤ j ∧
 j < (↑datan : Int) ∧
 withAddr data fun (b o : Nat) =>
 ∃ (n_1 : Int),
 Heap.cell h b (o + Int.toNat j) = some (int IntKind.i64 n_1) ∧
 0 ≤ j ∧
 j < (↑datan : Int) ∧
 withAddr data fun (b o : Nat) =>
 Heap.canSt h b (o + Int.toNat j) 1 ∧
 0 ≤ a ∧
 a < (↑datan : Int) ∧
 withAddr data fun (b_1 o_1 : Nat) =>
 Heap.canSt (Heap.setN h b (o + Int.toNat j) [int IntKind.i64 n]) b_1 (o_1 + Int.toNat a) 1 ∧
 Ret (Heap.setN (Heap.setN h b (o + Int.toNat j) [int IntKind.i64 n]) b_1 (o_1 + Int.toNat a) [int IntKind.i64 n_1]) K (tuple #[int IntKind.i64 j, Value.bool false]))
 (0 ≤ j ∧
 j < (↑datan : Int) ∧
 withAddr data fun (b o : Nat) =>
 ∃ (n : Int),
 Heap.cell h b (o + Int.toNat j) = some (int IntKind.i64 n) ∧
 0 ≤ i ∧
 i < (↑datan : Int) ∧
 withAddr data fun (b o : Nat) =>
 ∃ (n_1 : Int),
 Heap.cell h b (o + Int.toNat i) = some (int IntKind.i64 n_1) ∧
 0 ≤ i ∧
 i < (↑datan : Int) ∧
 withAddr data fun (b o : Nat) =>
 Heap.canSt h b (o + Int.toNat i) 1 ∧
 0 ≤ j ∧
 j < (↑datan : Int) ∧
 withAddr data fun (b_1 o_1 : Nat) =>
 Heap.canSt (Heap.setN h b (o + Int.toNat i) [int IntKind.i64 n]) b_1 (o_1 + Int.toNat j) 1 ∧
 L_slices_partitionOrdered_int_2 data datan datac a (IntKind.wrap IntKind.i64 (i + 1)) (IntKind.wrap IntKind.i64 (j - 1))
 (Heap.setN (Heap.setN h b (o + Int.toNat i) [int IntKind.i64 n]) b_1 (o_1 + Int.toNat j) [int IntKind.i64 n_1]) K))
theorem L_slices_partitionOrdered_int_4r (data : Option Addr) (datan : Nat) (datac : Nat) (a : Int) (i : Int) (j : Int) (h : Heap) (K : Value → Heap → Prop) (k : L_slices_partitionOrdered_int_4T data datan datac a i j h K) : L_slices_partitionOrdered_int_4 data datan datac a i j h K :=
 LoopAt.of_ev (cs := []) Try.func101 mixed (fun junk => by kernel_rfl) k
def F_slices_partitionOrdered_intT (data : Option Addr) (datan : Nat) (datac : Nat) (a : Int) (b : Int) (pivot : Int) (h : Heap) (K : Value → Heap → Prop) : Prop :=
 0 ≤ pivot ∧
 pivot < (↑datan : Int) ∧
 withAddr data fun (b_1 o : Nat) =>
 ∃ (n : Int),
 Heap.cell h b_1 (o + Int.toNat pivot) = some (int IntKind.i64 n) ∧
 0 ≤ a ∧
 a < (↑datan : Int) ∧
 withAddr data fun (b_2 o : Nat) =>
 ∃ (n_1 : Int),
 Heap.cell h b_2 (o + Int.toNat a) = some (int IntKind.i64 n_1) ∧
 0 ≤ a ∧
 a < (↑datan : Int) ∧
 withAddr data fun (b_3 o : Nat) =>
 Heap.canSt h b_3 (o + Int.toNat a) 1 ∧
 0 ≤ pivot ∧
 pivot < (↑datan : Int) ∧
 withAddr data fun (b_4 o_1 : Nat) =>
 Heap.canSt (Heap.setN h b_3 (o + Int.toNat a) [int IntKind.i64 n]) b_4 (o_1 + Int.toNat pivot) 1 ∧
 L_slices_partitionOrdered_int_0 data datan datac a (IntKind.wrap IntKind.i64 (a + 1)) (IntKind.wrap IntKind.i64 (b - 1))
 (Heap.setN (Heap.setN h b_3 (o + Int.toNat a) [int IntKind.i64 n]) b_4 (o_1 + Int.toNat pivot) [int IntKind.i64 n_1]) K
theorem F_slices_partitionOrdered_int (data : Option Addr) (datan : Nat) (datac : Nat) (a : Int) (b : Int) (pivot : Int) (h : Heap) (K : Value → Heap → Prop) (k : F_slices_partitionOrdered_intT data datan datac a b pivot h K) : CallA Try.prog fn_slices_partitionOrdered_int [slice data datan datac, int IntKind.i64 a, int IntKind.i64 b, int IntKind.i64 pivot] h K :=
 CallA.of_ev (cs := []) Try.func101 (by kernel_rfl) (fun _ _ => Try.call101 _ _) mixed (by kernel_rfl) (by kernel_rfl) k
def L_slices_partitionEqualOrdered_int_0 (data : Option Addr) (datan : Nat) (datac : Nat) (a : Int) (i : Int) (j : Int) (h : Heap) (K : Value → Heap → Prop) : Prop :=
 LoopAt Try.prog Try.f100 100 (loopK Try.f100 0) (sp 84 [(0, slice data datan datac), (1, int IntKind.i64 a), (9, int IntKind.i64 i), (10, int IntKind.i64 j)]) h K
def L_slices_partitionEqualOrdered_int_1 (data : Option Addr) (datan : Nat) (datac : Nat) (a : Int) (i : Int) (j : Int) (h : Heap) (K : Value → Heap → Prop) : Prop :=
 LoopAt Try.prog Try.f100 100 (loopK Try.f100 1) (sp 84 [(0, slice data datan datac), (1, int IntKind.i64 a), (9, int IntKind.i64 i), (10, int IntKind.i64 j)]) h K
def L_slices_partitionEqualOrdered_int_2 (data : Option Addr) (datan : Nat) (datac : Nat) (a : Int) (i : Int) (j : Int) (h : Heap) (K : Value → Heap → Prop) : Prop :=
 LoopAt Try.prog Try.f100 100 (loopK Try.f100 2) (sp 84 [(0, slice data datan datac), (1, int IntKind.i64 a), (9, int IntKind.i64 i), (10, int IntKind.i64 j)]) h K
def L_slices_partitionEqualOrdered_int_0T (data : Option Addr) (datan : Nat) (datac : Nat) (a : Int) (i : Int) (j : Int) (h : Heap) (K : Value → Heap → Prop) : Prop :=
 L_slices_partitionEqualOrdered_int_1 data datan datac a i j h K
theorem L_slices_partitionEqualOrdered_int_0r (data : Option Addr) (datan : Nat) (datac : Nat) (a : Int) (i : Int) (j : Int) (h : Heap) (K : Value → Heap → Prop) (k : L_slices_partitionEqualOrdered_int_0T data datan datac a i j h K) : L_slices_partitionEqualOrdered_int_0 data datan datac a i j h K :=
 LoopAt.of_ev (cs := []) Try.func100 mixed (fun junk => by kernel_rfl) k
def L_slices_partitionEqualOrdered_int_1T (data : Option Addr) (datan : Nat) (datac : Nat) (a : Int) (i : Int) (j : Int) (h : Heap) (K : Value → Heap → Prop) : Prop :=
 Br (decide (i ≤ j))
 (0 ≤ a ∧
 a < (↑datan : Int) ∧
 withAddr data fun (b o : Nat) =>
 ∃ (n : Int),
 Heap.cell h b (o + Int.toNat a) = some (int IntKind.i64 n) ∧
 0 ≤ i ∧
 i < (↑datan : Int) ∧
 withAddr data fun (b o : Nat) =>
 ∃ (n_1 : Int),
 Heap.cell h b (o + Int.toNat i) = some (int IntKind.i64 n_1) ∧
 CallA Try.prog fn_cmp_Less_int [int IntKind.i64 n, int IntKind.i64 n_1] h fun (v : Value) (h : Heap) =>
 ∃ (b : Bool), v = Value.bool b ∧ Br (!b) (L_slices_partitionEqualOrdered_int_1 data datan datac a (IntKind.wrap IntKind.i64 (i + 1)) j h K) (L_slices_partitionEqualOrdered_int_2 data datan datac a i j h K))
 (L_slices_partitionEqualOrdered_int_2 data datan datac a i j h K)
theorem L_slices_partitionEqualOrdered_int_1r (data : Option Addr) (datan : Nat) (datac : Nat) (a : Int) (i : Int) (j : Int) (h : Heap) (K : Value → Heap → Prop) (k : L_slices_partitionEqualOrdered_int_1T data datan datac a i j h K) : L_slices_partitionEqualOrdered_int_1 data datan datac a i j h K :=
 LoopAt.of_ev (cs := []) Try.func100 mixed (fun junk => by kernel_rfl) k
def L_slices_partitionEqualOrdered_int_2T (data : Option Addr) (datan : Nat) (datac : Nat) (a : Int) (i : Int) (j : Int) (h : Heap) (K : Value → Heap → Prop) : Prop :=
 Br (decide (i ≤ j))
 (0 ≤ a ∧
 a < (↑datan : Int) ∧
 withAddr data fun (b o : Nat) =>
 ∃ (n : Int),
 Heap.cell h b (o + Int.toNat a) = some (int IntKind.i64 n) ∧
 0 ≤ j ∧
 j < (↑datan : Int) ∧
 withAddr data fun (b o : Nat) =>
 ∃ (n_1 : Int),
 Heap.cell h b (o + Int.toNat j) = some (int IntKind.i64 n_1) ∧
 CallA Try.prog fn_cmp_Less_int [int IntKind.i64 n, int IntKind.i64 n_1] h fun (v : Value) (h : Heap) =>
 ∃ (b : Bool),
 v = Value.bool b ∧
 Br b (L_slices_partitionEqualOrdered_int_2 data datan datac a i (IntKind.wrap IntKind.i64 (j - 1)) h K)
 (Br (decide (i > j)) (Ret h K (int IntKind.i64 i))
 (0 ≤ j ∧
 j < (↑datan : Int) ∧
 withAddr data fun (b o : Nat) =>
 ∃ (n : Int),
 Heap.cell h b (o + Int.toNat j) = some (int IntKind.i64 n) ∧
 0 ≤ i ∧
 i < (↑datan : Int) ∧
 withAddr data fun (b o : Nat) =>
 ∃ (n_2 : Int),
 Heap.cell h b (o + Int.toNat i) = some (int IntKind.i64 n_2) ∧
 0 ≤ i ∧
 i < (↑datan : Int) ∧
 withAddr data fun (b o : Nat) =>
 Heap.canSt h b (o + Int.toNat i) 1 ∧
 0 ≤ j ∧
 j < (↑datan : Int) ∧
 withAddr data fun (b_1 o_1 : Nat) =>
 Heap.canSt (Heap.setN h b (o + Int.toNat i) [int IntKind.i64 n]) b_1 (o_1 + Int.toNat j) 1 ∧
 L_slices_partitionEqualOrdered_int_0 data datan datac a (IntKind.wrap IntKind.i64 (i + 1)) (IntKind.wrap IntKind.i64 (j - 1))
 (Heap.setN (Heap.setN h b (o + Int.toNat i) [int IntKind.i64 n]) b_1 (o_1 + Int.toNat j) [int IntKind.i64 n_2]) K)))
 (Br (decide (i > j)) (Ret h K (int IntKind.i64 i))
 (0 ≤ j ∧
 j < (↑datan : Int) ∧
 withAddr data fun (b o : Nat) =>
 ∃ (n : Int),
 Heap.cell h b (o + Int.toNat j) = some (int IntKind.i64 n) ∧
 0 ≤ i ∧
 i < (↑datan : Int) ∧
 withAddr data fun (b o : Nat) =>
 ∃ (n_1 : Int),
 Heap.cell h b (o + Int.toNat i) = some (int IntKind.i64 n_1) ∧
 0 ≤ i ∧
 i < (↑datan : Int) ∧
 withAddr data fun (b o : Nat) =>
 Heap.canSt h b (o + Int.toNat i) 1 ∧
 0 ≤ j ∧
 j < (↑datan : Int) ∧
 withAddr data fun (b_1 o_1 : Nat) =>
 Heap.canSt (Heap.setN h b (o + Int.toNat i) [int IntKind.i64 n]) b_1 (o_1 + Int.toNat j) 1 ∧
 L_slices_partitionEqualOrdered_int_0 data datan datac a (IntKind.wrap IntKind.i64 (i + 1)) (IntKind.wrap IntKind.i64 (j - 1))
 (Heap.setN (Heap.setN h b (o + Int.toNat i) [int IntKind.i64 n]) b_1 (o_1 + Int.toNat j) [int IntKind.i64 n_1]) K))
theorem L_slices_partitionEqualOrdered_int_2r (data : Option Addr) (datan : Nat) (datac : Nat) (a : Int) (i : Int) (j : Int) (h : Heap) (K : Value → Heap → Prop) (k : L_slices_partitionEqualOrdered_int_2T data datan datac a i j h K) : L_slices_partitionEqualOrdered_int_2 data datan datac a i j h K :=
 LoopAt.of_ev (cs := []) Try.func100 mixed (fun junk => by kernel_rfl) k
def F_slices_partitionEqualOrdered_intT (data : Option Addr) (datan : Nat) (datac : Nat) (a : Int) (b : Int) (pivot : Int) (h : Heap) (K : Value → Heap → Prop) : Prop :=
 0 ≤ pivot ∧
 pivot < (↑datan : Int) ∧
 withAddr data fun (b_1 o : Nat) =>
 ∃ (n : Int),
 Heap.cell h b_1 (o + Int.toNat pivot) = some (int IntKind.i64 n) ∧
 0 ≤ a ∧
 a < (↑datan : Int) ∧
 withAddr data fun (b_2 o : Nat) =>
 ∃ (n_1 : Int),
 Heap.cell h b_2 (o + Int.toNat a) = some (int IntKind.i64 n_1) ∧
 0 ≤ a ∧
 a < (↑datan : Int) ∧
 withAddr data fun (b_3 o : Nat) =>
 Heap.canSt h b_3 (o + Int.toNat a) 1 ∧
 0 ≤ pivot ∧
 pivot < (↑datan : Int) ∧
 withAddr data fun (b_4 o_1 : Nat) =>
 Heap.canSt (Heap.setN h b_3 (o + Int.toNat a) [int IntKind.i64 n]) b_4 (o_1 + Int.toNat pivot) 1 ∧
 L_slices_partitionEqualOrdered_int_0 data datan datac a (IntKind.wrap IntKind.i64 (a + 1)) (IntKind.wrap IntKind.i64 (b - 1))
 (Heap.setN (Heap.setN h b_3 (o + Int.toNat a) [int IntKind.i64 n]) b_4 (o_1 + Int.toNat pivot) [int IntKind.i64 n_1]) K
theorem F_slices_partitionEqualOrdered_int (data : Option Addr) (datan : Nat) (datac : Nat) (a : Int) (b : Int) (pivot : Int) (h : Heap) (K : Value → Heap → Prop) (k : F_slices_partitionEqualOrdered_intT data datan datac a b pivot h K) : CallA Try.prog fn_slices_partitionEqualOrdered_int [slice data datan datac, int IntKind.i64 a, int IntKind.i64 b, int IntKind.i64 pivot] h K :=
 CallA.of_ev (cs := []) Try.func100 (by kernel_rfl) (fun _ _ => Try.call100 _ _) mixed (by kernel_rfl) (by kernel_rfl) k
def L_slices_partialInsertionSortOrdered_int_0 (data : Option Addr) (datan : Nat) (datac : Nat) (a : Int) (b : Int) (i : Int) (j : Int) (h : Heap) (K : Value → Heap → Prop) : Prop :=
 LoopAt Try.prog Try.f98 98 (loopK Try.f98 0) (sp 133 [(0, slice data datan datac), (1, int IntKind.i64 a), (2, int IntKind.i64 b), (7, int IntKind.i64 i), (8, int IntKind.i64 j)]) h K
def L_slices_partialInsertionSortOrdered_int_1 (data : Option Addr) (datan : Nat) (datac : Nat) (a : Int) (b : Int) (i : Int) (j : Int) (h : Heap) (K : Value → Heap → Prop) : Prop :=
 LoopAt Try.prog Try.f98 98 (loopK Try.f98 1) (sp 133 [(0, slice data datan datac), (1, int IntKind.i64 a), (2, int IntKind.i64 b), (7, int IntKind.i64 i), (8, int IntKind.i64 j)]) h K
def L_slices_partialInsertionSortOrdered_int_2 (data : Option Addr) (datan : Nat) (datac : Nat) (a : Int) (b : Int) (i : Int) (j : Int) (j1 : Int) (h : Heap) (K : Value → Heap → Prop) : Prop :=
 LoopAt Try.prog Try.f98 98 (loopK Try.f98 2) (sp 133 [(0, slice data datan datac), (1, int IntKind.i64 a), (2, int IntKind.i64 b), (7, int IntKind.i64 i), (8, int IntKind.i64 j), (9, int IntKind.i64 j1)]) h K
def L_slices_partialInsertionSortOrdered_int_3 (data : Option Addr) (datan : Nat) (datac : Nat) (a : Int) (b : Int) (i : Int) (j : Int) (j1 : Int) (h : Heap) (K : Value → Heap → Prop) : Prop :=
 LoopAt Try.prog Try.f98 98 (loopK Try.f98 3) (sp 133 [(0, slice data datan datac), (1, int IntKind.i64 a), (2, int IntKind.i64 b), (7, int IntKind.i64 i), (8, int IntKind.i64 j), (10, int IntKind.i64 j1)]) h K
def L_slices_partialInsertionSortOrdered_int_0T (data : Option Addr) (datan : Nat) (datac : Nat) (a : Int) (b : Int) (i : Int) (j : Int) (h : Heap) (K : Value → Heap → Prop) : Prop :=
 Br (decide (j < 5)) (L_slices_partialInsertionSortOrdered_int_1 data datan datac a b i j h K) (Ret h K (Value.bool false))
theorem L_slices_partialInsertionSortOrdered_int_0r (data : Option Addr) (datan : Nat) (datac : Nat) (a : Int) (b : Int) (i : Int) (j : Int) (h : Heap) (K : Value → Heap → Prop) (k : L_slices_partialInsertionSortOrdered_int_0T data datan datac a b i j h K) : L_slices_partialInsertionSortOrdered_int_0 data datan datac a b i j h K :=
 LoopAt.of_ev (cs := []) Try.func98 mixed (fun junk => by kernel_rfl) k
def L_slices_partialInsertionSortOrdered_int_1T (data : Option Addr) (datan : Nat) (datac : Nat) (a : Int) (b : Int) (i : Int) (j : Int) (h : Heap) (K : Value → Heap → Prop) : Prop :=
 Br (decide (i < b))
 (0 ≤ i ∧
 i < (↑datan : Int) ∧
 withAddr data fun (b_1 o : Nat) =>
 ∃ (n : Int),
 Heap.cell h b_1 (o + Int.toNat i) = some (int IntKind.i64 n) ∧
 0 ≤ IntKind.wrap IntKind.i64 (i - 1) ∧
 IntKind.wrap IntKind.i64 (i - 1) < (↑datan : Int) ∧
 withAddr data fun (b_2 o : Nat) =>
 ∃ (n_1 : Int),
 Heap.cell h b_2 (o + Int.toNat (IntKind.wrap IntKind.i64 (i - 1))) = some (int IntKind.i64 n_1) ∧
 CallA Try.prog fn_cmp_Less_int [int IntKind.i64 n, int IntKind.i64 n_1] h fun (v : Value) (h : Heap) =>
 ∃ (b_3 : Bool),
 v = Value.bool b_3 ∧
 Br (!b_3) (L_slices_partialInsertionSortOrdered_int_1 data datan datac a b (IntKind.wrap IntKind.i64 (i + 1)) j h K)
 (Br (i == b) (Ret h K (Value.bool true))
 (Br (decide (IntKind.wrap IntKind.i64 (b - a) < 50)) (Ret h K (Value.bool false))
 (0 ≤ IntKind.wrap IntKind.i64 (i - 1) ∧
 IntKind.wrap IntKind.i64 (i - 1) < (↑datan : Int) ∧
 withAddr data fun (b_4 o : Nat) =>
 ∃ (n : Int),
 Heap.cell h b_4 (o + Int.toNat (IntKind.wrap IntKind.i64 (i - 1))) = some (int IntKind.i64 n) ∧
 0 ≤ i ∧
 i < (↑datan : Int) ∧
 withAddr data fun (b_5 o : Nat) =>
 ∃ (n_2 : Int),
 Heap.cell h b_5 (o + Int.toNat i) = some (int IntKind.i64 n_2) ∧
 0 ≤ i ∧
 i < (↑datan : Int) ∧
 withAddr data fun (b_6 o : Nat) =>
 Heap.canSt h b_6 (o + Int.toNat i) 1 ∧
 0 ≤ IntKind.wrap IntKind.i64 (i - 1) ∧
 IntKind.wrap IntKind.i64 (i - 1) < (↑datan : Int) ∧
 withAddr data fun (b_7 o_1 : Nat) =>
 Heap.canSt (Heap.setN h b_6 (o + Int.toNat i) [int IntKind.i64 n]) b_7 (o_1 + Int.toNat (IntKind.wrap IntKind.i64 (i - 1))) 1 ∧
 Br (decide (IntKind.wrap IntKind.i64 (i - a) ≥ 2))
 (L_slices_partialInsertionSortOrdered_int_2 data datan datac a b i j (IntKind.wrap IntKind.i64 (i - 1))
 (Heap.setN (Heap.setN h b_6 (o + Int.toNat i) [int IntKind.i64 n]) b_7 (o_1 + Int.toNat (IntKind.wrap IntKind.i64 (i - 1))) [int IntKind.i64 n_2])
 K)
 (Br (decide (IntKind.wrap IntKind.i64 (b - i) ≥ 2))
 (L_slices_partialInsertionSortOrdered_int_3 data datan datac a b i j (IntKind.wrap IntKind.i64 (i + 1))
 (Heap.setN (Heap.setN h b_6 (o + Int.toNat i) [int IntKind.i64 n]) b_7 (o_1 + Int.toNat (IntKind.wrap IntKind.i64 (i - 1)))
 [int IntKind.i64 n_2])
 K)
 (L_slices_partialInsertionSortOrdered_int_0 data datan datac a b i (IntKind.wrap IntKind.i64 (j + 1))
 (Heap.setN (Heap.setN h b_6 (o + Int.toNat i) [int IntKind.i64 n]) b_7 (o_1 + Int.toNat (IntKind.wrap IntKind.i64 (i - 1)))
 [int IntKind.i64 n_2])
 K))))))
 (Br (i == b) (Ret h K (Value.bool true))
 (Br (decide (IntKind.wrap IntKind.i64 (b - a) < 50)) (Ret h K (Value.bool false))
 (0 ≤ IntKind.wrap IntKind.i64 (i - 1) ∧
 IntKind.wrap IntKind.i64 (i - 1) < (↑datan : Int) ∧
 withAddr data fun (b_1 o : Nat) =>
 ∃ (n : Int),
 Heap.cell h b_1 (o + Int.toNat (IntKind.wrap IntKind.i64 (i - 1))) = some (int IntKind.i64 n) ∧
 0 ≤ i ∧
 i < (↑datan : Int) ∧
 withAddr data fun (b_2 o : Nat) =>
 ∃ (n_1 : Int),
 Heap.cell h b_2 (o + Int.toNat i) = some (int IntKind.i64 n_1) ∧
 0 ≤ i ∧
 i < (↑datan : Int) ∧
 withAddr data fun (b_3 o : Nat) =>
 Heap.canSt h b_3 (o + Int.toNat i) 1 ∧
 0 ≤ IntKind.wrap IntKind.i64 (i - 1) ∧
 IntKind.wrap IntKind.i64 (i - 1) < (↑datan : Int) ∧
 withAddr data fun (b_4 o_1 : Nat) =>
 Heap.canSt (Heap.setN h b_3 (o + Int.toNat i) [int IntKind.i64 n]) b_4 (o_1 + Int.toNat (IntKind.wrap IntKind.i64 (i - 1))) 1 ∧
 Br (decide (IntKind.wrap IntKind.i64 (i - a) ≥ 2))
 (L_slices_partialInsertionSortOrdered_int_2 data datan datac a b i j (IntKind.wrap IntKind.i64 (i - 1))
 (Heap.setN (Heap.setN h b_3 (o + Int.toNat i) [int IntKind.i64 n]) b_4 (o_1 + Int.toNat (IntKind.wrap IntKind.i64 (i - 1))) [int IntKind.i64 n_1]) K)
 (Br (decide (IntKind.wrap IntKind.i64 (b - i) ≥ 2))
 (L_slices_partialInsertionSortOrdered_int_3 data datan datac a b i j (IntKind.wrap IntKind.i64 (i + 1))
 (Heap.setN (Heap.setN h b_3 (o + Int.toNat i) [int IntKind.i64 n]) b_4 (o_1 + Int.toNat (IntKind.wrap IntKind.i64 (i - 1))) [int IntKind.i64 n_1]) K)
 (L_slices_partialInsertionSortOrdered_int_0 data datan datac a b i (IntKind.wrap IntKind.i64 (j + 1))
 (Heap.setN (Heap.setN h b_3 (o + Int.toNat i) [int IntKind.i64 n]) b_4 (o_1 + Int.toNat (IntKind.wrap IntKind.i64 (i - 1))) [int IntKind.i64 n_1]) K)))))
theorem L_slices_partialInsertionSortOrdered_int_1r (data : Option Addr) (datan : Nat) (datac : Nat) (a : Int) (b : Int) (i : Int) (j : Int) (h : Heap) (K : Value → Heap → Prop) (k : L_slices_partialInsertionSortOrdered_int_1T data datan datac a b i j h K) : L_slices_partialInsertionSortOrdered_int_1 data datan datac a b i j h K :=
 LoopAt.of_ev (cs := []) Try.func98 mixed (fun junk => by kernel_rfl) k
def L_slices_partialInsertionSortOrdered_int_2T (data : Option Addr) (datan : Nat) (datac : Nat) (a : Int) (b : Int) (i : Int) (j : Int) (j1 : Int) (h : Heap) (K : Value → Heap → Prop) : Prop :=
 Br (decide (j1 ≥ 1))
 (0 ≤ j1 ∧
 j1 < (↑datan : Int) ∧
 withAddr data fun (b_1 o : Nat) =>
 ∃ (n : Int),
 Heap.cell h b_1 (o + Int.toNat j1) = some (int IntKind.i64 n) ∧
 0 ≤ IntKind.wrap IntKind.i64 (j1 - 1) ∧
 IntKind.wrap IntKind.i64 (j1 - 1) < (↑datan : Int) ∧
 withAddr data fun (b_2 o : Nat) =>
 ∃ (n_1 : Int),
 Heap.cell h b_2 (o + Int.toNat (IntKind.wrap IntKind.i64 (j1 - 1))) = some (int IntKind.i64 n_1) ∧
 CallA Try.prog fn_cmp_Less_int [int IntKind.i64 n, int IntKind.i64 n_1] h fun (v : Value) (h : Heap) =>
 ∃ (b_3 : Bool),
 v = Value.bool b_3 ∧
 Br (!b_3)
 (Br (decide (IntKind.wrap IntKind.i64 (b - i) ≥ 2)) (L_slices_partialInsertionSortOrdered_int_3 data datan datac a b i j (IntKind.wrap IntKind.i64 (i + 1)) h K)
 (L_slices_partialInsertionSortOrdered_int_0 data datan datac a b i (IntKind.wrap IntKind.i64 (j + 1)) h K))
 (0 ≤ IntKind.wrap IntKind.i64 (j1 - 1) ∧
 IntKind.wrap IntKind.i64 (j1 - 1) < (↑datan : Int) ∧
 withAddr data fun (b_4 o : Nat) =>
 ∃ (n : Int),
 Heap.cell h b_4 (o + Int.toNat (IntKind.wrap IntKind.i64 (j1 - 1))) = some (int IntKind.i64 n) ∧
 0 ≤ j1 ∧
 j1 < (↑datan : Int) ∧
 withAddr data fun (b_5 o : Nat) =>
 ∃ (n_2 : Int),
 Heap.cell h b_5 (o + Int.toNat j1) = some (int IntKind.i64 n_2) ∧
 0 ≤ j1 ∧
 j1 < (↑datan : Int) ∧
 withAddr data fun (b_6 o : Nat) =>
 Heap.canSt h b_6 (o + Int.toNat j1) 1 ∧
 0 ≤ IntKind.wrap IntKind.i64 (j1 - 1) ∧
 IntKind.wrap IntKind.i64 (j1 - 1) < (↑datan : Int) ∧
 withAddr data fun (b_7 o_1 : Nat) =>
 Heap.canSt (Heap.setN h b_6 (o + Int.toNat j1) [int IntKind.i64 n]) b_7 (o_1 + Int.toNat (IntKind.wrap IntKind.i64 (j1 - 1))) 1 ∧
 L_slices_partialInsertionSortOrdered_int_2 data datan datac a b i j (IntKind.wrap IntKind.i64 (j1 - 1))
 (Heap.setN (Heap.setN h b_6 (o + Int.toNat j1) [int IntKind.i64 n]) b_7 (o_1 + Int.toNat (IntKind.wrap IntKind.i64 (j1 - 1))) [int IntKind.i64 n_2]) K))
 (Br (decide (IntKind.wrap IntKind.i64 (b - i) ≥ 2)) (L_slices_partialInsertionSortOrdered_int_3 data datan datac a b i j (IntKind.wrap IntKind.i64 (i + 1)) h K) (L_slices_partialInsertionSortOrdered_int_0 data datan datac a b i (IntKind.wrap IntKind.i64 (j + 1)) h K))
theorem L_slices_partialInsertionSortOrdered_int_2r (data : Option Addr) (datan : Nat) (datac : Nat) (a : Int) (b : Int) (i : Int) (j : Int) (j1 : Int) (h : Heap) (K : Value → Heap → Prop) (k : L_slices_partialInsertionSortOrdered_int_2T data datan datac a b i j j1 h K) : L_slices_partialInsertionSortOrdered_int_2 data datan datac a b i j j1 h K :=
 LoopAt.of_ev (cs := []) Try.func98 mixed (fun junk => by kernel_rfl) k
def L_slices_partialInsertionSortOrdered_int_3T (data : Option Addr) (datan : Nat) (datac : Nat) (a : Int) (b : Int) (i : Int) (j : Int) (j1 : Int) (h : Heap) (K : Value → Heap → Prop) : Prop :=
 Br (decide (j1 < b))
 (0 ≤ j1 ∧
 j1 < (↑datan : Int) ∧
 withAddr data fun (b_1 o : Nat) =>
 ∃ (n : Int),
 Heap.cell h b_1 (o + Int.toNat j1) = some (int IntKind.i64 n) ∧
 0 ≤ IntKind.wrap IntKind.i64 (j1 - 1) ∧
 IntKind.wrap IntKind.i64 (j1 - 1) < (↑datan : Int) ∧
 withAddr data fun (b_2 o : Nat) =>
 ∃ (n_1 : Int),
 Heap.cell h b_2 (o + Int.toNat (IntKind.wrap IntKind.i64 (j1 - 1))) = some (int IntKind.i64 n_1) ∧
 CallA Try.prog fn_cmp_Less_int [int IntKind.i64 n, int IntKind.i64 n_1] h fun (v : Value) (h : Heap) =>
 ∃ (b_3 : Bool),
 v = Value.bool b_3 ∧
 Br (!b_3) (L_slices_partialInsertionSortOrdered_int_0 data datan datac a b i (IntKind.wrap IntKind.i64 (j + 1)) h K)
 (0 ≤ IntKind.wrap IntKind.i64 (j1 - 1) ∧
 IntKind.wrap IntKind.i64 (j1 - 1) < (↑datan : Int) ∧
 withAddr data fun (b_4 o : Nat) =>
 ∃ (n : Int),
 Heap.cell h b_4 (o + Int.toNat (IntKind.wrap IntKind.i64 (j1 - 1))) = some (int IntKind.i64 n) ∧
 0 ≤ j1 ∧
 j1 < (↑datan : Int) ∧
 withAddr data fun (b_5 o : Nat) =>
 ∃ (n_2 : Int),
 Heap.cell h b_5 (o + Int.toNat j1) = some (int IntKind.i64 n_2) ∧
 0 ≤ j1 ∧
 j1 < (↑datan : Int) ∧
 withAddr data fun (b_6 o : Nat) =>
 Heap.canSt h b_6 (o + Int.toNat j1) 1 ∧
 0 ≤ IntKind.wrap IntKind.i64 (j1 - 1) ∧
 IntKind.wrap IntKind.i64 (j1 - 1) < (↑datan : Int) ∧
 withAddr data fun (b_7 o_1 : Nat) =>
 Heap.canSt (Heap.setN h b_6 (o + Int.toNat j1) [int IntKind.i64 n]) b_7 (o_1 + Int.toNat (IntKind.wrap IntKind.i64 (j1 - 1))) 1 ∧
 L_slices_partialInsertionSortOrdered_int_3 data datan datac a b i j (IntKind.wrap IntKind.i64 (j1 + 1))
 (Heap.setN (Heap.setN h b_6 (o + Int.toNat j1) [int IntKind.i64 n]) b_7 (o_1 + Int.toNat (IntKind.wrap IntKind.i64 (j1 - 1))) [int IntKind.i64 n_2]) K))
 (L_slices_partialInsertionSortOrdered_int_0 data datan datac a b i (IntKind.wrap IntKind.i64 (j + 1)) h K)
theorem L_slices_partialInsertionSortOrdered_int_3r (data : Option Addr) (datan : Nat) (datac : Nat) (a : Int) (b : Int) (i : Int) (j : Int) (j1 : Int) (h : Heap) (K : Value → Heap → Prop) (k : L_slices_partialInsertionSortOrdered_int_3T data datan datac a b i j j1 h K) : L_slices_partialInsertionSortOrdered_int_3 data datan datac a b i j j1 h K :=
 LoopAt.of_ev (cs := []) Try.func98 mixed (fun junk => by kernel_rfl) k
def F_slices_partialInsertionSortOrdered_intT (data : Option Addr) (datan : Nat) (datac : Nat) (a : Int) (b : Int) (h : Heap) (K : Value → Heap → Prop) : Prop :=
 L_slices_partialInsertionSortOrdered_int_0 data datan datac a b (IntKind.wrap IntKind.i64 (a + 1)) 0 h K
theorem F_slices_partialInsertionSortOrdered_int (data : Option Addr) (datan : Nat) (datac : Nat) (a : Int) (b : Int) (h : Heap) (K : Value → Heap → Prop) (k : F_slices_partialInsertionSortOrdered_intT data datan datac a b h K) : CallA Try.prog fn_slices_partialInsertionSortOrdered_int [slice data datan datac, int IntKind.i64 a, int IntKind.i64 b] h K :=
 CallA.of_ev (cs := []) Try.func98 (by kernel_rfl) (fun _ _ => Try.call98 _ _) mixed (by kernel_rfl) (by kernel_rfl) k
end Go.Proofs.Ytjihfieahkbohaa
