import Derived.Test.YtghdadniddoboaaGreatM03
namespace Go.Proofs.YtghdadniddoboaaGreat
open Go Go.Sy Go.Value
set_option linter.unusedVariables false
set_option maxRecDepth 100000
def L_ref08_New_0 (members : Int) (currencies : Int) (l : Nat) (i : Int) (h : Heap) (K : Value → Heap → Prop) : Prop :=
 LoopAt Tryz.prog Tryz.f7 7 (loopK Tryz.f7 0) (sp 43 [(0, int IntKind.i64 members), (1, int IntKind.i64 currencies), (6, pointer (some { block := l, off := 0 })), (7, int IntKind.i64 i)]) h K
def L_ref08_New_0T (members : Int) (currencies : Int) (l : Nat) (i : Int) (h : Heap) (K : Value → Heap → Prop) : Prop :=
 Br (decide (i < members))
 (∃ (a : Option Addr),
 ∃ (n : Nat),
 ∃ (m : Nat),
 Heap.cell h l 0 = some (slice a n m) ∧
 0 ≤ currencies ∧
 currencies ≤ currencies ∧
 currencies ≤ 281474976710656 ∧
 8 * currencies ≤ 281474976710656 ∧
 newB h (repL (Int.toNat currencies) [int IntKind.i64 0]) 2 fun (r : Nat) (h : Heap) =>
 newB h [slice (some { block := r, off := 0 }) (Int.toNat currencies) (Int.toNat currencies)] 61 fun (r : Nat) (h : Heap) =>
 AppA [slice none 0 0] 61 h a n m 1 (some { block := r, off := 0 }) fun (ap : Option Addr) (cp : Nat) (h : Heap) =>
 Heap.canSt h l 0 1 ∧ L_ref08_New_0 members currencies l (IntKind.wrap IntKind.i64 (i + 1)) (Heap.setN h l 0 [slice ap (n + 1) cp]) K)
 (Ret h K (tuple #[pointer (some { block := l, off := 0 }), int IntKind.i64 0]))
theorem L_ref08_New_0r (members : Int) (currencies : Int) (l : Nat) (i : Int) (h : Heap) (K : Value → Heap → Prop) (k : L_ref08_New_0T members currencies l i h K) : L_ref08_New_0 members currencies l i h K :=
 LoopAt.of_ev (cs := []) Tryz.func7 mixed (fun junk => by kernel_rfl) k
def F_ref08_NewT (members : Int) (currencies : Int) (h : Heap) (K : Value → Heap → Prop) : Prop :=
 Br (decide (members < 1)) (Ret h K (tuple #[pointer none, int IntKind.i64 1]))
 (Br (decide (members > 16)) (Ret h K (tuple #[pointer none, int IntKind.i64 1]))
 (Br (decide (currencies < 1)) (Ret h K (tuple #[pointer none, int IntKind.i64 1]))
 (Br (decide (currencies > 8)) (Ret h K (tuple #[pointer none, int IntKind.i64 1]))
 (0 ≤ currencies ∧
 currencies ≤ currencies ∧
 currencies ≤ 281474976710656 ∧
 8 * currencies ≤ 281474976710656 ∧
 newB h (repL (Int.toNat currencies) [int IntKind.i64 0]) 2 fun (r : Nat) (h : Heap) =>
 newB h [slice none 0 0, slice (some { block := r, off := 0 }) (Int.toNat currencies) (Int.toNat currencies)] 74 fun (r : Nat) (h : Heap) => L_ref08_New_0 members currencies r 0 h K))))
theorem F_ref08_New (members : Int) (currencies : Int) (h : Heap) (K : Value → Heap → Prop) (k : F_ref08_NewT members currencies h K) : CallA Tryz.prog fn_ref08_New [int IntKind.i64 members, int IntKind.i64 currencies] h K :=
 CallA.of_ev (cs := []) Tryz.func7 (by kernel_rfl) (fun _ _ => Tryz.call7 _ _) mixed (by kernel_rfl) (by kernel_rfl) k
def F_pref08_Ledger_HasT (l : Option Addr) (member : Int) (cur : Int) (h : Heap) (K : Value → Heap → Prop) : Prop :=
 Br (decide (member ≥ 0))
 (withAddr l fun (b o : Nat) =>
 ∃ (a : Option Addr),
 ∃ (n : Nat),
 ∃ (m : Nat),
 Heap.cell h b o = some (slice a n m) ∧
 Br (decide (member < (↑n : Int)))
 (Br (decide (cur ≥ 0)) (withAddr l fun (b o : Nat) => ∃ (a : Option Addr), ∃ (n : Nat), ∃ (m : Nat), Heap.cell h b (o + 1) = some (slice a n m) ∧ Ret h K (Value.bool (decide (cur < (↑n : Int)))))
 (Ret h K (Value.bool false)))
 (Ret h K (Value.bool false)))
 (Ret h K (Value.bool false))
theorem F_pref08_Ledger_Has (l : Option Addr) (member : Int) (cur : Int) (h : Heap) (K : Value → Heap → Prop) (k : F_pref08_Ledger_HasT l member cur h K) : CallA Tryz.prog fn_pref08_Ledger_Has [pointer l, int IntKind.i64 member, int IntKind.i64 cur] h K :=
 CallA.of_ev (cs := []) Tryz.func44 (by kernel_rfl) (fun _ _ => Tryz.call44 _ _) mixed (by kernel_rfl) (by kernel_rfl) k
def L_pref08_Ledger_Copy_0 (l : Option Addr) (m : Nat) (i : Int) (h : Heap) (K : Value → Heap → Prop) : Prop :=
 LoopAt Tryz.prog Tryz.f53 53 (loopK Tryz.f53 0) (sp 41 [(0, pointer l), (3, pointer (some { block := m, off := 0 })), (4, int IntKind.i64 i)]) h K
def L_pref08_Ledger_Copy_0T (l : Option Addr) (m : Nat) (i : Int) (h : Heap) (K : Value → Heap → Prop) : Prop :=
 withAddr l fun (b o : Nat) =>
 ∃ (a : Option Addr),
 ∃ (n : Nat),
 ∃ (m_1 : Nat),
 Heap.cell h b o = some (slice a n m_1) ∧
 Br (decide (i < (↑n : Int)))
 (∃ (a : Option Addr),
 ∃ (n : Nat),
 ∃ (m_2 : Nat),
 Heap.cell h m 0 = some (slice a n m_2) ∧
 withAddr l fun (b o : Nat) =>
 ∃ (a_1 : Option Addr),
 ∃ (n_1 : Nat),
 ∃ (m_3 : Nat),
 Heap.cell h b o = some (slice a_1 n_1 m_3) ∧
 0 ≤ i ∧
 i < (↑n_1 : Int) ∧
 withAddr a_1 fun (b o : Nat) =>
 ∃ (a_2 : Option Addr),
 ∃ (n_2 : Nat),
 ∃ (m_4 : Nat),
 Heap.cell h b (o + Int.toNat i) = some (slice a_2 n_2 m_4) ∧
 newB h [] 2 fun (r : Nat) (h : Heap) =>
 AppA [int IntKind.i64 0] 2 h (some { block := r, off := 0 }) 0 0 n_2 a_2 fun (ap : Option Addr) (cp : Nat) (h_1 : Heap) =>
 (Heap.le h h_1 ∨ Keeps [m] h h_1) ∧
 newB h_1 [slice ap (0 + n_2) cp] 61 fun (r : Nat) (h : Heap) =>
 AppA [slice none 0 0] 61 h a n m_2 1 (some { block := r, off := 0 }) fun (ap : Option Addr) (cp : Nat) (h : Heap) =>
 Heap.canSt h m 0 1 ∧ L_pref08_Ledger_Copy_0 l m (IntKind.wrap IntKind.i64 (i + 1)) (Heap.setN h m 0 [slice ap (n + 1) cp]) K)
 (Ret h K (pointer (some { block := m, off := 0 })))
theorem L_pref08_Ledger_Copy_0r (l : Option Addr) (m : Nat) (i : Int) (h : Heap) (K : Value → Heap → Prop) (k : L_pref08_Ledger_Copy_0T l m i h K) : L_pref08_Ledger_Copy_0 l m i h K :=
 LoopAt.of_ev (cs := []) Tryz.func53 mixed (fun junk => by kernel_rfl) k
def F_pref08_Ledger_CopyT (l : Option Addr) (h : Heap) (K : Value → Heap → Prop) : Prop :=
 newB h [] 2 fun (r : Nat) (h : Heap) =>
 withAddr l fun (b o : Nat) =>
 ∃ (a : Option Addr),
 ∃ (n : Nat),
 ∃ (m : Nat),
 Heap.cell h b (o + 1) = some (slice a n m) ∧
 AppA [int IntKind.i64 0] 2 h (some { block := r, off := 0 }) 0 0 n a fun (ap : Option Addr) (cp : Nat) (h : Heap) => newB h [slice none 0 0, slice ap (0 + n) cp] 74 fun (r : Nat) (h : Heap) => L_pref08_Ledger_Copy_0 l r 0 h K
theorem F_pref08_Ledger_Copy (l : Option Addr) (h : Heap) (K : Value → Heap → Prop) (k : F_pref08_Ledger_CopyT l h K) : CallA Tryz.prog fn_pref08_Ledger_Copy [pointer l] h K :=
 CallA.of_ev (cs := []) Tryz.func53 (by kernel_rfl) (fun _ _ => Tryz.call53 _ _) mixed (by kernel_rfl) (by kernel_rfl) k
def L_pref08_Ledger_Post_0 (l : Option Addr) (batch : Option Addr) (batchn : Nat) (batchc : Nat) (sums : Option Addr) (sumsn : Nat) (sumsc : Nat) (i : Int) (h : Heap) (K : Value → Heap → Prop) : Prop :=
 LoopAt Tryz.prog Tryz.f51 51 (loopK Tryz.f51 0) (sp 135 [(0, pointer l), (1, slice batch batchn batchc), (5, slice sums sumsn sumsc), (6, int IntKind.i64 i)]) h K
def L_pref08_Ledger_Post_1 (l : Option Addr) (batch : Option Addr) (batchn : Nat) (batchc : Nat) (sums : Option Addr) (sumsn : Nat) (sumsc : Nat) (i : Int) (h : Heap) (K : Value → Heap → Prop) : Prop :=
 LoopAt Tryz.prog Tryz.f51 51 (loopK Tryz.f51 1) (sp 135 [(0, pointer l), (1, slice batch batchn batchc), (5, slice sums sumsn sumsc), (7, int IntKind.i64 i)]) h K
def L_pref08_Ledger_Post_2 (l : Option Addr) (batch : Option Addr) (batchn : Nat) (batchc : Nat) (sums : Option Addr) (sumsn : Nat) (sumsc : Nat) (c : Int) (h : Heap) (K : Value → Heap → Prop) : Prop :=
 LoopAt Tryz.prog Tryz.f51 51 (loopK Tryz.f51 2) (sp 135 [(0, pointer l), (1, slice batch batchn batchc), (5, slice sums sumsn sumsc), (8, int IntKind.i64 c)]) h K
def L_pref08_Ledger_Post_3 (l : Option Addr) (batch : Option Addr) (batchn : Nat) (batchc : Nat) (m : Option Addr) (i : Int) (h : Heap) (K : Value → Heap → Prop) : Prop :=
 LoopAt Tryz.prog Tryz.f51 51 (loopK Tryz.f51 3) (sp 135 [(0, pointer l), (1, slice batch batchn batchc), (9, pointer m), (10, int IntKind.i64 i)]) h K
def L_pref08_Ledger_Post_0T (l : Option Addr) (batch : Option Addr) (batchn : Nat) (batchc : Nat) (sums : Option Addr) (sumsn : Nat) (sumsc : Nat) (i : Int) (h : Heap) (K : Value → Heap → Prop) : Prop :=
 Br (decide (i < (↑batchn : Int)))
 (0 ≤ i ∧
 i < (↑batchn : Int) ∧
 withAddr batch fun (b o : Nat) =>
 ∃ (n : Int),
 Heap.cell h b (o + Int.toNat i * 3) = some (int IntKind.i64 n) ∧
 0 ≤ i ∧
 i < (↑batchn : Int) ∧
 withAddr batch fun (b o : Nat) =>
 ∃ (n_1 : Int),
 Heap.cell h b (o + Int.toNat i * 3 + 1) = some (int IntKind.i64 n_1) ∧
 CallA Tryz.prog fn_pref08_Ledger_Has [pointer l, int IntKind.i64 n, int IntKind.i64 n_1] h fun (v : Value) (h : Heap) =>
 ∃ (b : Bool), v = Value.bool b ∧ Br (!b) (Ret h K (int IntKind.i64 1)) (L_pref08_Ledger_Post_0 l batch batchn batchc sums sumsn sumsc (IntKind.wrap IntKind.i64 (i + 1)) h K))
 (L_pref08_Ledger_Post_1 l batch batchn batchc sums sumsn sumsc 0 h K)
theorem L_pref08_Ledger_Post_0r (l : Option Addr) (batch : Option Addr) (batchn : Nat) (batchc : Nat) (sums : Option Addr) (sumsn : Nat) (sumsc : Nat) (i : Int) (h : Heap) (K : Value → Heap → Prop) (k : L_pref08_Ledger_Post_0T l batch batchn batchc sums sumsn sumsc i h K) : L_pref08_Ledger_Post_0 l batch batchn batchc sums sumsn sumsc i h K :=
 LoopAt.of_ev (cs := []) Tryz.func51 mixed (fun junk => by kernel_rfl) k
def L_pref08_Ledger_Post_1T (l : Option Addr) (batch : Option Addr) (batchn : Nat) (batchc : Nat) (sums : Option Addr) (sumsn : Nat) (sumsc : Nat) (i : Int) (h : Heap) (K : Value → Heap → Prop) : Prop :=
 Br (decide (i < (↑batchn : Int)))
 (0 ≤ i ∧
 i < (↑batchn : Int) ∧
 withAddr batch fun (b o : Nat) =>
 ∃ (n : Int),
 Heap.cell h b (o + Int.toNat i * 3 + 1) = some (int IntKind.i64 n) ∧
 0 ≤ i ∧
 i < (↑batchn : Int) ∧
 withAddr batch fun (b_1 o : Nat) =>
 ∃ (n_1 : Int),
 Heap.cell h b_1 (o + Int.toNat i * 3 + 1) = some (int IntKind.i64 n_1) ∧
 0 ≤ n_1 ∧
 n_1 < (↑sumsn : Int) ∧
 withAddr sums fun (b_2 o : Nat) =>
 ∃ (b_3 : Bool),
 Heap.cell h b_2 (o + Int.toNat n_1 * 2) = some (Value.bool b_3) ∧
 ∃ (a : Option Addr),
 ∃ (n_2 : Nat),
 ∃ (m : Nat),
 Heap.cell h b_2 (o + Int.toNat n_1 * 2 + 1) = some (slice a n_2 m) ∧
 0 ≤ i ∧
 i < (↑batchn : Int) ∧
 withAddr batch fun (b_4 o : Nat) =>
 ∃ (n_3 : Int),
 Heap.cell h b_4 (o + Int.toNat i * 3 + 2) = some (int IntKind.i64 n_3) ∧
 CallA Tryz.prog fn_ref01_Of [int IntKind.i64 n_3] h fun (v : Value) (h_1 : Heap) =>
 ∃ (b_5 : Bool),
 ∃ (a_1 : Option Addr),
 ∃ (n_4 : Nat),
 ∃ (m_1 : Nat),
 v = agg #[Value.bool b_5, slice a_1 n_4 m_1] ∧
 (Heap.le h h_1 ∨ Keeps [b, b_1, b_2] h h_1) ∧
 CallA Tryz.prog fn_ref01_Add [agg #[Value.bool b_3, slice a n_2 m], agg #[Value.bool b_5, slice a_1 n_4 m_1]] h_1 fun (v : Value) (h : Heap) =>
 ∃ (b_6 : Bool),
 ∃ (a : Option Addr),
 ∃ (n_5 : Nat),
 ∃ (m : Nat),
 v = agg #[Value.bool b_6, slice a n_5 m] ∧
 (Heap.le h_1 h ∨ Keeps [b] h_1 h) ∧
 0 ≤ n ∧
 n < (↑sumsn : Int) ∧
 withAddr sums fun (b o : Nat) =>
 Heap.canSt h b (o + Int.toNat n * 2) 2 ∧
 L_pref08_Ledger_Post_1 l batch batchn batchc sums sumsn sumsc (IntKind.wrap IntKind.i64 (i + 1))
 (Heap.setN h b (o + Int.toNat n * 2) [Value.bool b_6, slice a n_5 m]) K)
 (L_pref08_Ledger_Post_2 l batch batchn batchc sums sumsn sumsc 0 h K)
theorem L_pref08_Ledger_Post_1r (l : Option Addr) (batch : Option Addr) (batchn : Nat) (batchc : Nat) (sums : Option Addr) (sumsn : Nat) (sumsc : Nat) (i : Int) (h : Heap) (K : Value → Heap → Prop) (k : L_pref08_Ledger_Post_1T l batch batchn batchc sums sumsn sumsc i h K) : L_pref08_Ledger_Post_1 l batch batchn batchc sums sumsn sumsc i h K :=
 LoopAt.of_ev (cs := []) Tryz.func51 mixed (fun junk => by kernel_rfl) k
def L_pref08_Ledger_Post_2T (l : Option Addr) (batch : Option Addr) (batchn : Nat) (batchc : Nat) (sums : Option Addr) (sumsn : Nat) (sumsc : Nat) (c : Int) (h : Heap) (K : Value → Heap → Prop) : Prop :=
 Br (decide (c < (↑sumsn : Int)))
 (0 ≤ c ∧
 c < (↑sumsn : Int) ∧
 withAddr sums fun (b o : Nat) =>
 ∃ (a : Option Addr),
 ∃ (n : Nat),
 ∃ (m : Nat),
 Heap.cell h b (o + Int.toNat c * 2 + 1) = some (slice a n m) ∧
 Br (decide ((↑n : Int) > 0)) (Ret h K (int IntKind.i64 12)) (L_pref08_Ledger_Post_2 l batch batchn batchc sums sumsn sumsc (IntKind.wrap IntKind.i64 (c + 1)) h K))
 (CallA Tryz.prog fn_pref08_Ledger_Copy [pointer l] h fun (v : Value) (h : Heap) => ∃ (a : Option Addr), v = pointer a ∧ L_pref08_Ledger_Post_3 l batch batchn batchc a 0 h K)
theorem L_pref08_Ledger_Post_2r (l : Option Addr) (batch : Option Addr) (batchn : Nat) (batchc : Nat) (sums : Option Addr) (sumsn : Nat) (sumsc : Nat) (c : Int) (h : Heap) (K : Value → Heap → Prop) (k : L_pref08_Ledger_Post_2T l batch batchn batchc sums sumsn sumsc c h K) : L_pref08_Ledger_Post_2 l batch batchn batchc sums sumsn sumsc c h K :=
 LoopAt.of_ev (cs := []) Tryz.func51 mixed (fun junk => by kernel_rfl) k
def L_pref08_Ledger_Post_3T (l : Option Addr) (batch : Option Addr) (batchn : Nat) (batchc : Nat) (m : Option Addr) (i : Int) (h : Heap) (K : Value → Heap → Prop) : Prop :=
 Br (decide (i < (↑batchn : Int)))
 (0 ≤ i ∧
 i < (↑batchn : Int) ∧
 withAddr batch fun (b o : Nat) =>
 ∃ (n : Int),
 Heap.cell h b (o + Int.toNat i * 3) = some (int IntKind.i64 n) ∧
 ∃ (n_1 : Int),
 Heap.cell h b (o + Int.toNat i * 3 + 1) = some (int IntKind.i64 n_1) ∧
 ∃ (n_2 : Int),
 Heap.cell h b (o + Int.toNat i * 3 + 2) = some (int IntKind.i64 n_2) ∧
 newB h [int IntKind.i64 0, int IntKind.i64 0, int IntKind.i64 0] 65 fun (r : Nat) (h : Heap) =>
 Heap.canSt h r 0 3 ∧
 withAddr m fun (b o : Nat) =>
 ∃ (a : Option Addr),
 ∃ (n_3 : Nat),
 ∃ (m_1 : Nat),
 Heap.cell (Heap.setN h r 0 [int IntKind.i64 n, int IntKind.i64 n_1, int IntKind.i64 n_2]) b o = some (slice a n_3 m_1) ∧
 ∃ (n_4 : Int),
 Heap.cell (Heap.setN h r 0 [int IntKind.i64 n, int IntKind.i64 n_1, int IntKind.i64 n_2]) r 0 = some (int IntKind.i64 n_4) ∧
 0 ≤ n_4 ∧
 n_4 < (↑n_3 : Int) ∧
 withAddr a fun (b o : Nat) =>
 ∃ (a : Option Addr),
 ∃ (n_5 : Nat),
 ∃ (m_2 : Nat),
 Heap.cell (Heap.setN h r 0 [int IntKind.i64 n, int IntKind.i64 n_1, int IntKind.i64 n_2]) b (o + Int.toNat n_4) = some (slice a n_5 m_2) ∧
 ∃ (n_6 : Int),
 Heap.cell (Heap.setN h r 0 [int IntKind.i64 n, int IntKind.i64 n_1, int IntKind.i64 n_2]) r 1 = some (int IntKind.i64 n_6) ∧
 0 ≤ n_6 ∧
 n_6 < (↑n_5 : Int) ∧
 withAddr a fun (b o : Nat) =>
 ∃ (n_7 : Int),
 Heap.cell (Heap.setN h r 0 [int IntKind.i64 n, int IntKind.i64 n_1, int IntKind.i64 n_2]) b (o + Int.toNat n_6) = some (int IntKind.i64 n_7) ∧
 ∃ (n_8 : Int),
 Heap.cell (Heap.setN h r 0 [int IntKind.i64 n, int IntKind.i64 n_1, int IntKind.i64 n_2]) r 2 = some (int IntKind.i64 n_8) ∧
 CallA Tryz.prog fn_ref01_Of [int IntKind.i64 n_7] (Heap.setN h r 0 [int IntKind.i64 n, int IntKind.i64 n_1, int IntKind.i64 n_2])
 fun (v : Value) (h_1 : Heap) =>
 ∃ (b : Bool),
 ∃ (a : Option Addr),
 ∃ (n_9 : Nat),
 ∃ (m_3 : Nat),
 v = agg #[Value.bool b, slice a n_9 m_3] ∧
 (Heap.le (Heap.setN h r 0 [int IntKind.i64 n, int IntKind.i64 n_1, int IntKind.i64 n_2]) h_1 ∨
 Keeps [r] (Heap.setN h r 0 [int IntKind.i64 n, int IntKind.i64 n_1, int IntKind.i64 n_2]) h_1) ∧
 CallA Tryz.prog fn_ref01_Of [int IntKind.i64 n_8] h_1 fun (v : Value) (h : Heap) =>
 ∃ (b_1 : Bool),
 ∃ (a_1 : Option Addr),
 ∃ (n : Nat),
 ∃ (m_4 : Nat),
 v = agg #[Value.bool b_1, slice a_1 n m_4] ∧
 CallA Tryz.prog fn_ref01_Add [agg #[Value.bool b, slice a n_9 m_3], agg #[Value.bool b_1, slice a_1 n m_4]] h
 fun (v : Value) (h : Heap) =>
 ∃ (b : Bool),
 ∃ (a : Option Addr),
 ∃ (n : Nat),
 ∃ (m_5 : Nat),
 v = agg #[Value.bool b, slice a n m_5] ∧
 CallA Tryz.prog fn_ref01_Fit [agg #[Value.bool b, slice a n m_5]] h fun (v : Value) (h : Heap) =>
 ∃ (n : Int),
 ∃ (n_10 : Int),
 v = tuple #[int IntKind.i64 n, int IntKind.i64 n_10] ∧
 Br (n_10 != 0) (Ret h K (int IntKind.i64 n_10))
 (withAddr m fun (b o : Nat) =>
 ∃ (a : Option Addr),
 ∃ (n_11 : Nat),
 ∃ (m_6 : Nat),
 Heap.cell h b o = some (slice a n_11 m_6) ∧
 ∃ (n_12 : Int),
 Heap.cell h r 0 = some (int IntKind.i64 n_12) ∧
 0 ≤ n_12 ∧
 n_12 < (↑n_11 : Int) ∧
 withAddr a fun (b o : Nat) =>
 ∃ (a : Option Addr),
 ∃ (n_13 : Nat),
 ∃ (m_7 : Nat),
 Heap.cell h b (o + Int.toNat n_12) = some (slice a n_13 m_7) ∧
 ∃ (n_14 : Int),
 Heap.cell h r 1 = some (int IntKind.i64 n_14) ∧
 0 ≤ n_14 ∧
 n_14 < (↑n_13 : Int) ∧
 withAddr a fun (b o : Nat) =>
 Heap.canSt h b (o + Int.toNat n_14) 1 ∧
 L_pref08_Ledger_Post_3 l batch batchn batchc m
 (IntKind.wrap IntKind.i64 (i + 1))
 (Heap.setN h b (o + Int.toNat n_14) [int IntKind.i64 n]) K))
 (withAddr m fun (b o : Nat) =>
 ∃ (a : Option Addr), ∃ (n : Nat), ∃ (m : Nat), Heap.cell h b o = some (slice a n m) ∧ withAddr l fun (b o : Nat) => Heap.canSt h b o 1 ∧ Ret (Heap.setN h b o [slice a n m]) K (int IntKind.i64 0))
theorem L_pref08_Ledger_Post_3r (l : Option Addr) (batch : Option Addr) (batchn : Nat) (batchc : Nat) (m : Option Addr) (i : Int) (h : Heap) (K : Value → Heap → Prop) (k : L_pref08_Ledger_Post_3T l batch batchn batchc m i h K) : L_pref08_Ledger_Post_3 l batch batchn batchc m i h K :=
 LoopAt.of_ev (cs := []) Tryz.func51 mixed (fun junk => by kernel_rfl) k
def F_pref08_Ledger_PostT (l : Option Addr) (batch : Option Addr) (batchn : Nat) (batchc : Nat) (h : Heap) (K : Value → Heap → Prop) : Prop :=
 withAddr l fun (b o : Nat) =>
 ∃ (a : Option Addr),
 ∃ (n : Nat),
 ∃ (m : Nat),
 Heap.cell h b (o + 1) = some (slice a n m) ∧
 0 ≤ (↑n : Int) ∧
 (↑n : Int) ≤ (↑n : Int) ∧
 (↑n : Int) ≤ 281474976710656 ∧
 32 * (↑n : Int) ≤ 281474976710656 ∧
 newB h (repL (Int.toNat (↑n : Int)) [Value.bool false, slice none 0 0]) 126 fun (r : Nat) (h : Heap) =>
 L_pref08_Ledger_Post_0 l batch batchn batchc (some { block := r, off := 0 }) (Int.toNat (↑n : Int)) (Int.toNat (↑n : Int)) 0 h K
theorem F_pref08_Ledger_Post (l : Option Addr) (batch : Option Addr) (batchn : Nat) (batchc : Nat) (h : Heap) (K : Value → Heap → Prop) (k : F_pref08_Ledger_PostT l batch batchn batchc h K) : CallA Tryz.prog fn_pref08_Ledger_Post [pointer l, slice batch batchn batchc] h K :=
 CallA.of_ev (cs := []) Tryz.func51 (by kernel_rfl) (fun _ _ => Tryz.call51 _ _) mixed (by kernel_rfl) (by kernel_rfl) k
def L_pref08_Ledger_In_1003 (l : Option Addr) (member : Int) (cur : Int) (amount : Int) (h : Heap) (K : Value → Heap → Prop) : Prop :=
 CutAt Tryz.prog Tryz.f47 47 (cutK Tryz.f47 3) (sp 78 [(0, pointer l), (1, int IntKind.i64 member), (2, int IntKind.i64 cur), (3, int IntKind.i64 amount)]) h K
def L_pref08_Ledger_In_1007 (l : Option Addr) (member : Int) (cur : Int) (n : Int) (m : Int) (h : Heap) (K : Value → Heap → Prop) : Prop :=
 CutAt Tryz.prog Tryz.f47 47 (cutK Tryz.f47 7) (sp 78 [(0, pointer l), (1, int IntKind.i64 member), (2, int IntKind.i64 cur), (9, int IntKind.i64 n), (11, int IntKind.i64 m)]) h K
def L_pref08_Ledger_In_1003T (l : Option Addr) (member : Int) (cur : Int) (amount : Int) (h : Heap) (K : Value → Heap → Prop) : Prop :=
 withAddr l fun (b o : Nat) =>
 ∃ (a : Option Addr),
 ∃ (n : Nat),
 ∃ (m : Nat),
 Heap.cell h b o = some (slice a n m) ∧
 0 ≤ member ∧
 member < (↑n : Int) ∧
 withAddr a fun (b o : Nat) =>
 ∃ (a : Option Addr),
 ∃ (n : Nat),
 ∃ (m : Nat),
 Heap.cell h b (o + Int.toNat member) = some (slice a n m) ∧
 0 ≤ cur ∧
 cur < (↑n : Int) ∧
 withAddr a fun (b o : Nat) =>
 ∃ (n : Int),
 Heap.cell h b (o + Int.toNat cur) = some (int IntKind.i64 n) ∧
 CallA Tryz.prog fn_ref01_Of [int IntKind.i64 n] h fun (v : Value) (h : Heap) =>
 ∃ (b : Bool),
 ∃ (a : Option Addr),
 ∃ (n : Nat),
 ∃ (m : Nat),
 v = agg #[Value.bool b, slice a n m] ∧
 CallA Tryz.prog fn_ref01_Of [int IntKind.i64 amount] h fun (v : Value) (h : Heap) =>
 ∃ (b_1 : Bool),
 ∃ (a_1 : Option Addr),
 ∃ (n_1 : Nat),
 ∃ (m_1 : Nat),
 v = agg #[Value.bool b_1, slice a_1 n_1 m_1] ∧
 CallA Tryz.prog fn_ref01_Add [agg #[Value.bool b, slice a n m], agg #[Value.bool b_1, slice a_1 n_1 m_1]] h fun (v : Value) (h : Heap) =>
 ∃ (b : Bool),
 ∃ (a : Option Addr),
 ∃ (n : Nat),
 ∃ (m : Nat),
 v = agg #[Value.bool b, slice a n m] ∧
 CallA Tryz.prog fn_ref01_Fit [agg #[Value.bool b, slice a n m]] h fun (v : Value) (h : Heap) =>
 ∃ (n : Int),
 ∃ (n_2 : Int),
 v = tuple #[int IntKind.i64 n, int IntKind.i64 n_2] ∧
 withAddr l fun (b o : Nat) =>
 ∃ (a : Option Addr),
 ∃ (n_3 : Nat),
 ∃ (m : Nat),
 Heap.cell h b (o + 1) = some (slice a n_3 m) ∧
 0 ≤ cur ∧
 cur < (↑n_3 : Int) ∧
 withAddr a fun (b o : Nat) =>
 ∃ (n_4 : Int),
 Heap.cell h b (o + Int.toNat cur) = some (int IntKind.i64 n_4) ∧
 CallA Tryz.prog fn_ref01_Of [int IntKind.i64 n_4] h fun (v : Value) (h : Heap) =>
 ∃ (b : Bool),
 ∃ (a : Option Addr),
 ∃ (n_5 : Nat),
 ∃ (m : Nat),
 v = agg #[Value.bool b, slice a n_5 m] ∧
 CallA Tryz.prog fn_ref01_Of [int IntKind.i64 amount] h fun (v : Value) (h : Heap) =>
 ∃ (b_2 : Bool),
 ∃ (a_2 : Option Addr),
 ∃ (n_6 : Nat),
 ∃ (m_2 : Nat),
 v = agg #[Value.bool b_2, slice a_2 n_6 m_2] ∧
 CallA Tryz.prog 85
 [agg #[Value.bool b, slice a n_5 m], agg #[Value.bool b_2, slice a_2 n_6 m_2]] h
 fun (v : Value) (h : Heap) =>
 ∃ (b : Bool),
 ∃ (a : Option Addr),
 ∃ (n_7 : Nat),
 ∃ (m : Nat),
 v = agg #[Value.bool b, slice a n_7 m] ∧
 CallA Tryz.prog fn_ref01_Fit [agg #[Value.bool b, slice a n_7 m]] h
 fun (v : Value) (h : Heap) =>
 ∃ (n_8 : Int),
 ∃ (n_9 : Int),
 v = tuple #[int IntKind.i64 n_8, int IntKind.i64 n_9] ∧
 Br (n_2 != 0) (Ret h K (int IntKind.i64 3))
 (Br (n_9 != 0) (Ret h K (int IntKind.i64 3))
 (L_pref08_Ledger_In_1007 l member cur n n_8 h K))
theorem L_pref08_Ledger_In_1003r (l : Option Addr) (member : Int) (cur : Int) (amount : Int) (h : Heap) (K : Value → Heap → Prop) (k : L_pref08_Ledger_In_1003T l member cur amount h K) : L_pref08_Ledger_In_1003 l member cur amount h K :=
 CutAt.of_ev (cs := [3, 7]) Tryz.func47 mixed (fun junk => by kernel_rfl) k
def L_pref08_Ledger_In_1007T (l : Option Addr) (member : Int) (cur : Int) (n : Int) (m : Int) (h : Heap) (K : Value → Heap → Prop) : Prop :=
 withAddr l fun (b o : Nat) =>
 ∃ (a : Option Addr),
 ∃ (n_1 : Nat),
 ∃ (m_1 : Nat),
 Heap.cell h b o = some (slice a n_1 m_1) ∧
 0 ≤ member ∧
 member < (↑n_1 : Int) ∧
 withAddr a fun (b o : Nat) =>
 ∃ (a : Option Addr),
 ∃ (n_2 : Nat),
 ∃ (m_2 : Nat),
 Heap.cell h b (o + Int.toNat member) = some (slice a n_2 m_2) ∧
 0 ≤ cur ∧
 cur < (↑n_2 : Int) ∧
 withAddr a fun (b o : Nat) =>
 Heap.canSt h b (o + Int.toNat cur) 1 ∧
 withAddr l fun (b_1 o_1 : Nat) =>
 ∃ (a : Option Addr),
 ∃ (n_3 : Nat),
 ∃ (m_3 : Nat),
 Heap.cell (Heap.setN h b (o + Int.toNat cur) [int IntKind.i64 n]) b_1 (o_1 + 1) = some (slice a n_3 m_3) ∧
 0 ≤ cur ∧
 cur < (↑n_3 : Int) ∧
 withAddr a fun (b_2 o_2 : Nat) =>
 Heap.canSt (Heap.setN h b (o + Int.toNat cur) [int IntKind.i64 n]) b_2 (o_2 + Int.toNat cur) 1 ∧
 Ret (Heap.setN (Heap.setN h b (o + Int.toNat cur) [int IntKind.i64 n]) b_2 (o_2 + Int.toNat cur) [int IntKind.i64 m]) K (int IntKind.i64 0)
theorem L_pref08_Ledger_In_1007r (l : Option Addr) (member : Int) (cur : Int) (n : Int) (m : Int) (h : Heap) (K : Value → Heap → Prop) (k : L_pref08_Ledger_In_1007T l member cur n m h K) : L_pref08_Ledger_In_1007 l member cur n m h K :=
 CutAt.of_ev (cs := [3, 7]) Tryz.func47 mixed (fun junk => by kernel_rfl) k
def F_pref08_Ledger_InT (l : Option Addr) (member : Int) (cur : Int) (amount : Int) (h : Heap) (K : Value → Heap → Prop) : Prop :=
 CallA Tryz.prog fn_pref08_Ledger_Has [pointer l, int IntKind.i64 member, int IntKind.i64 cur] h fun (v : Value) (h : Heap) =>
 ∃ (b : Bool), v = Value.bool b ∧ Br (!b) (Ret h K (int IntKind.i64 1)) (Br (decide (amount < 1)) (Ret h K (int IntKind.i64 1)) (L_pref08_Ledger_In_1003 l member cur amount h K))
theorem F_pref08_Ledger_In (l : Option Addr) (member : Int) (cur : Int) (amount : Int) (h : Heap) (K : Value → Heap → Prop) (k : F_pref08_Ledger_InT l member cur amount h K) : CallA Tryz.prog fn_pref08_Ledger_In [pointer l, int IntKind.i64 member, int IntKind.i64 cur, int IntKind.i64 amount] h K :=
 CallA.of_ev (cs := [3, 7]) Tryz.func47 (by kernel_rfl) (fun _ _ => Tryz.call47 _ _) mixed (by kernel_rfl) (by kernel_rfl) k
def L_pref08_Ledger_Out_1003 (l : Option Addr) (member : Int) (cur : Int) (amount : Int) (h : Heap) (K : Value → Heap → Prop) : Prop :=
 CutAt Tryz.prog Tryz.f48 48 (cutK Tryz.f48 3) (sp 77 [(0, pointer l), (1, int IntKind.i64 member), (2, int IntKind.i64 cur), (3, int IntKind.i64 amount)]) h K
def L_pref08_Ledger_Out_1005 (l : Option Addr) (member : Int) (cur : Int) (amount : Int) (h : Heap) (K : Value → Heap → Prop) : Prop :=
 CutAt Tryz.prog Tryz.f48 48 (cutK Tryz.f48 5) (sp 77 [(0, pointer l), (1, int IntKind.i64 member), (2, int IntKind.i64 cur), (3, int IntKind.i64 amount)]) h K
def L_pref08_Ledger_Out_1003T (l : Option Addr) (member : Int) (cur : Int) (amount : Int) (h : Heap) (K : Value → Heap → Prop) : Prop :=
 withAddr l fun (b o : Nat) =>
 ∃ (a : Option Addr),
 ∃ (n : Nat),
 ∃ (m : Nat),
 Heap.cell h b o = some (slice a n m) ∧
 0 ≤ member ∧
 member < (↑n : Int) ∧
 withAddr a fun (b o : Nat) =>
 ∃ (a : Option Addr),
 ∃ (n : Nat),
 ∃ (m : Nat),
 Heap.cell h b (o + Int.toNat member) = some (slice a n m) ∧
 0 ≤ cur ∧
 cur < (↑n : Int) ∧
 withAddr a fun (b o : Nat) =>
 ∃ (n : Int),
 Heap.cell h b (o + Int.toNat cur) = some (int IntKind.i64 n) ∧
 Br (decide (n < amount)) (Ret h K (int IntKind.i64 10))
 (withAddr l fun (b o : Nat) =>
 ∃ (a : Option Addr),
 ∃ (n : Nat),
 ∃ (m : Nat),
 Heap.cell h b (o + 1) = some (slice a n m) ∧
 0 ≤ cur ∧
 cur < (↑n : Int) ∧
 withAddr a fun (b o : Nat) =>
 ∃ (n : Int), Heap.cell h b (o + Int.toNat cur) = some (int IntKind.i64 n) ∧ Br (decide (n < amount)) (Ret h K (int IntKind.i64 10)) (L_pref08_Ledger_Out_1005 l member cur amount h K))
theorem L_pref08_Ledger_Out_1003r (l : Option Addr) (member : Int) (cur : Int) (amount : Int) (h : Heap) (K : Value → Heap → Prop) (k : L_pref08_Ledger_Out_1003T l member cur amount h K) : L_pref08_Ledger_Out_1003 l member cur amount h K :=
 CutAt.of_ev (cs := [3, 5]) Tryz.func48 mixed (fun junk => by kernel_rfl) k
def L_pref08_Ledger_Out_1005T (l : Option Addr) (member : Int) (cur : Int) (amount : Int) (h : Heap) (K : Value → Heap → Prop) : Prop :=
 withAddr l fun (b o : Nat) =>
 ∃ (a : Option Addr),
 ∃ (n : Nat),
 ∃ (m : Nat),
 Heap.cell h b o = some (slice a n m) ∧
 0 ≤ member ∧
 member < (↑n : Int) ∧
 withAddr a fun (b o : Nat) =>
 ∃ (a : Option Addr),
 ∃ (n : Nat),
 ∃ (m : Nat),
 Heap.cell h b (o + Int.toNat member) = some (slice a n m) ∧
 withAddr l fun (b o : Nat) =>
 ∃ (a_1 : Option Addr),
 ∃ (n_1 : Nat),
 ∃ (m : Nat),
 Heap.cell h b o = some (slice a_1 n_1 m) ∧
 0 ≤ member ∧
 member < (↑n_1 : Int) ∧
 withAddr a_1 fun (b o : Nat) =>
 ∃ (a_2 : Option Addr),
 ∃ (n_2 : Nat),
 ∃ (m : Nat),
 Heap.cell h b (o + Int.toNat member) = some (slice a_2 n_2 m) ∧
 0 ≤ cur ∧
 cur < (↑n_2 : Int) ∧
 withAddr a_2 fun (b o : Nat) =>
 ∃ (n_3 : Int),
 Heap.cell h b (o + Int.toNat cur) = some (int IntKind.i64 n_3) ∧
 0 ≤ cur ∧
 cur < (↑n : Int) ∧
 withAddr a fun (b o : Nat) =>
 Heap.canSt h b (o + Int.toNat cur) 1 ∧
 withAddr l fun (b_1 o_1 : Nat) =>
 ∃ (a : Option Addr),
 ∃ (n : Nat),
 ∃ (m : Nat),
 Heap.cell (Heap.setN h b (o + Int.toNat cur) [int IntKind.i64 (IntKind.wrap IntKind.i64 (n_3 - amount))]) b_1 (o_1 + 1) = some (slice a n m) ∧
 withAddr l fun (b_2 o_2 : Nat) =>
 ∃ (a_3 : Option Addr),
 ∃ (n_4 : Nat),
 ∃ (m : Nat),
 Heap.cell (Heap.setN h b (o + Int.toNat cur) [int IntKind.i64 (IntKind.wrap IntKind.i64 (n_3 - amount))]) b_2 (o_2 + 1) =
 some (slice a_3 n_4 m) ∧
 0 ≤ cur ∧
 cur < (↑n_4 : Int) ∧
 withAddr a_3 fun (b_3 o_3 : Nat) =>
 ∃ (n_5 : Int),
 Heap.cell (Heap.setN h b (o + Int.toNat cur) [int IntKind.i64 (IntKind.wrap IntKind.i64 (n_3 - amount))]) b_3
 (o_3 + Int.toNat cur) =
 some (int IntKind.i64 n_5) ∧
 0 ≤ cur ∧
 cur < (↑n : Int) ∧
 withAddr a fun (b_4 o_4 : Nat) =>
 Heap.canSt (Heap.setN h b (o + Int.toNat cur) [int IntKind.i64 (IntKind.wrap IntKind.i64 (n_3 - amount))]) b_4
 (o_4 + Int.toNat cur) 1 ∧
 Ret
 (Heap.setN (Heap.setN h b (o + Int.toNat cur) [int IntKind.i64 (IntKind.wrap IntKind.i64 (n_3 - amount))]) b_4
 (o_4 + Int.toNat cur) [int IntKind.i64 (IntKind.wrap IntKind.i64 (n_5 - amount))])
 K (int IntKind.i64 0)
theorem L_pref08_Ledger_Out_1005r (l : Option Addr) (member : Int) (cur : Int) (amount : Int) (h : Heap) (K : Value → Heap → Prop) (k : L_pref08_Ledger_Out_1005T l member cur amount h K) : L_pref08_Ledger_Out_1005 l member cur amount h K :=
 CutAt.of_ev (cs := [3, 5]) Tryz.func48 mixed (fun junk => by kernel_rfl) k
def F_pref08_Ledger_OutT (l : Option Addr) (member : Int) (cur : Int) (amount : Int) (h : Heap) (K : Value → Heap → Prop) : Prop :=
 CallA Tryz.prog fn_pref08_Ledger_Has [pointer l, int IntKind.i64 member, int IntKind.i64 cur] h fun (v : Value) (h : Heap) =>
 ∃ (b : Bool), v = Value.bool b ∧ Br (!b) (Ret h K (int IntKind.i64 1)) (Br (decide (amount < 1)) (Ret h K (int IntKind.i64 1)) (L_pref08_Ledger_Out_1003 l member cur amount h K))
theorem F_pref08_Ledger_Out (l : Option Addr) (member : Int) (cur : Int) (amount : Int) (h : Heap) (K : Value → Heap → Prop) (k : F_pref08_Ledger_OutT l member cur amount h K) : CallA Tryz.prog fn_pref08_Ledger_Out [pointer l, int IntKind.i64 member, int IntKind.i64 cur, int IntKind.i64 amount] h K :=
 CallA.of_ev (cs := [3, 5]) Tryz.func48 (by kernel_rfl) (fun _ _ => Tryz.call48 _ _) mixed (by kernel_rfl) (by kernel_rfl) k
def L_pref08_Ledger_Swap_1003 (l : Option Addr) (member : Int) (get : Int) (give : Int) (got : Int) (given : Int) (h : Heap) (K : Value → Heap → Prop) : Prop :=
 CutAt Tryz.prog Tryz.f52 52 (cutK Tryz.f52 3) (sp 157 [(0, pointer l), (1, int IntKind.i64 member), (2, int IntKind.i64 get), (3, int IntKind.i64 give), (4, int IntKind.i64 got), (5, int IntKind.i64 given)]) h K
def L_pref08_Ledger_Swap_1005 (l : Option Addr) (member : Int) (get : Int) (give : Int) (got : Int) (given : Int) (h : Heap) (K : Value → Heap → Prop) : Prop :=
 CutAt Tryz.prog Tryz.f52 52 (cutK Tryz.f52 5) (sp 157 [(0, pointer l), (1, int IntKind.i64 member), (2, int IntKind.i64 get), (3, int IntKind.i64 give), (4, int IntKind.i64 got), (5, int IntKind.i64 given)]) h K
def L_pref08_Ledger_Swap_1010 (l : Option Addr) (member : Int) (get : Int) (give : Int) (given : Int) (n : Int) (m : Int) (k' : Int) (h : Heap) (K : Value → Heap → Prop) : Prop :=
 CutAt Tryz.prog Tryz.f52 52 (cutK Tryz.f52 10) (sp 157 [(0, pointer l), (1, int IntKind.i64 member), (2, int IntKind.i64 get), (3, int IntKind.i64 give), (5, int IntKind.i64 given), (13, int IntKind.i64 n), (15, int IntKind.i64 m), (17, int IntKind.i64 k')]) h K
def L_pref08_Ledger_Swap_1003T (l : Option Addr) (member : Int) (get : Int) (give : Int) (got : Int) (given : Int) (h : Heap) (K : Value → Heap → Prop) : Prop :=
 withAddr l fun (b o : Nat) =>
 ∃ (a : Option Addr),
 ∃ (n : Nat),
 ∃ (m : Nat),
 Heap.cell h b (o + 1) = some (slice a n m) ∧
 0 ≤ give ∧
 give < (↑n : Int) ∧
 withAddr a fun (b o : Nat) => ∃ (n : Int), Heap.cell h b (o + Int.toNat give) = some (int IntKind.i64 n) ∧ Br (decide (n < given)) (Ret h K (int IntKind.i64 10)) (L_pref08_Ledger_Swap_1005 l member get give got given h K)
theorem L_pref08_Ledger_Swap_1003r (l : Option Addr) (member : Int) (get : Int) (give : Int) (got : Int) (given : Int) (h : Heap) (K : Value → Heap → Prop) (k : L_pref08_Ledger_Swap_1003T l member get give got given h K) : L_pref08_Ledger_Swap_1003 l member get give got given h K :=
 CutAt.of_ev (cs := [3, 5, 10]) Tryz.func52 mixed (fun junk => by kernel_rfl) k
def L_pref08_Ledger_Swap_1005T (l : Option Addr) (member : Int) (get : Int) (give : Int) (got : Int) (given : Int) (h : Heap) (K : Value → Heap → Prop) : Prop :=
 withAddr l fun (b o : Nat) =>
 ∃ (a : Option Addr),
 ∃ (n : Nat),
 ∃ (m : Nat),
 Heap.cell h b o = some (slice a n m) ∧
 0 ≤ member ∧
 member < (↑n : Int) ∧
 withAddr a fun (b o : Nat) =>
 ∃ (a : Option Addr),
 ∃ (n : Nat),
 ∃ (m : Nat),
 Heap.cell h b (o + Int.toNat member) = some (slice a n m) ∧
 0 ≤ get ∧
 get < (↑n : Int) ∧
 withAddr a fun (b o : Nat) =>
 ∃ (n : Int),
 Heap.cell h b (o + Int.toNat get) = some (int IntKind.i64 n) ∧
 CallA Tryz.prog fn_ref01_Of [int IntKind.i64 n] h fun (v : Value) (h : Heap) =>
 ∃ (b : Bool),
 ∃ (a : Option Addr),
 ∃ (n : Nat),
 ∃ (m : Nat),
 v = agg #[Value.bool b, slice a n m] ∧
 CallA Tryz.prog fn_ref01_Of [int IntKind.i64 got] h fun (v : Value) (h : Heap) =>
 ∃ (b_1 : Bool),
 ∃ (a_1 : Option Addr),
 ∃ (n_1 : Nat),
 ∃ (m_1 : Nat),
 v = agg #[Value.bool b_1, slice a_1 n_1 m_1] ∧
 CallA Tryz.prog fn_ref01_Add [agg #[Value.bool b, slice a n m], agg #[Value.bool b_1, slice a_1 n_1 m_1]] h fun (v : Value) (h : Heap) =>
 ∃ (b : Bool),
 ∃ (a : Option Addr),
 ∃ (n : Nat),
 ∃ (m : Nat),
 v = agg #[Value.bool b, slice a n m] ∧
 CallA Tryz.prog fn_ref01_Fit [agg #[Value.bool b, slice a n m]] h fun (v : Value) (h : Heap) =>
 ∃ (n : Int),
 ∃ (n_2 : Int),
 v = tuple #[int IntKind.i64 n, int IntKind.i64 n_2] ∧
 withAddr l fun (b o : Nat) =>
 ∃ (a : Option Addr),
 ∃ (n_3 : Nat),
 ∃ (m : Nat),
 Heap.cell h b (o + 1) = some (slice a n_3 m) ∧
 0 ≤ get ∧
 get < (↑n_3 : Int) ∧
 withAddr a fun (b o : Nat) =>
 ∃ (n_4 : Int),
 Heap.cell h b (o + Int.toNat get) = some (int IntKind.i64 n_4) ∧
 CallA Tryz.prog fn_ref01_Of [int IntKind.i64 n_4] h fun (v : Value) (h : Heap) =>
 ∃ (b : Bool),
 ∃ (a : Option Addr),
 ∃ (n_5 : Nat),
 ∃ (m : Nat),
 v = agg #[Value.bool b, slice a n_5 m] ∧
 CallA Tryz.prog fn_ref01_Of [int IntKind.i64 got] h fun (v : Value) (h : Heap) =>
 ∃ (b_2 : Bool),
 ∃ (a_2 : Option Addr),
 ∃ (n_6 : Nat),
 ∃ (m_2 : Nat),
 v = agg #[Value.bool b_2, slice a_2 n_6 m_2] ∧
 CallA Tryz.prog 85
 [agg #[Value.bool b, slice a n_5 m], agg #[Value.bool b_2, slice a_2 n_6 m_2]] h
 fun (v : Value) (h : Heap) =>
 ∃ (b : Bool),
 ∃ (a : Option Addr),
 ∃ (n_7 : Nat),
 ∃ (m : Nat),
 v = agg #[Value.bool b, slice a n_7 m] ∧
 CallA Tryz.prog fn_ref01_Fit [agg #[Value.bool b, slice a n_7 m]] h
 fun (v : Value) (h : Heap) =>
 ∃ (n_8 : Int),
 ∃ (n_9 : Int),
 v = tuple #[int IntKind.i64 n_8, int IntKind.i64 n_9] ∧
 withAddr l fun (b o : Nat) =>
 ∃ (a : Option Addr),
 ∃ (n_10 : Nat),
 ∃ (m : Nat),
 Heap.cell h b o = some (slice a n_10 m) ∧
 0 ≤ member ∧
 member < (↑n_10 : Int) ∧
 withAddr a fun (b o : Nat) =>
 ∃ (a : Option Addr),
 ∃ (n_11 : Nat),
 ∃ (m : Nat),
 Heap.cell h b (o + Int.toNat member) =
 some (slice a n_11 m) ∧
 0 ≤ give ∧
 give < (↑n_11 : Int) ∧
 withAddr a fun (b o : Nat) =>
 ∃ (n_12 : Int),
 Heap.cell h b (o + Int.toNat give) =
 some (int IntKind.i64 n_12) ∧
 CallA Tryz.prog 86
 [int IntKind.i64 n_12] h
 fun (v : Value) (h : Heap) =>
 ∃ (b : Bool),
 ∃ (a : Option Addr),
 ∃ (n_13 : Nat),
 ∃ (m : Nat),
 v =
 agg
 #[Value.bool b,
 slice a n_13 m] ∧
 CallA Tryz.prog 86
 [int IntKind.i64 given] h
 fun (v : Value) (h : Heap) =>
 ∃ (b_3 : Bool),
 ∃ (a_3 : Option Addr),
 ∃ (n_14 : Nat),
 ∃ (m_3 : Nat),
 v =
 agg
 #[Value.bool
 b_3,
 slice a_3 n_14
 m_3] ∧
 CallA
 Tryz.prog
 87
 [agg
 #[Value.bool
 b_3,
 slice a_3
 n_14 m_3]]
 h
 fun (v : Value)
 (h : Heap) =>
 ∃ (b_4 : Bool),
 ∃ (a_4 :
 Option Addr),
 ∃ (n_15 :
 Nat),
 ∃ (m_4 :
 Nat),
 v =
 agg
 #[Value.bool
 b_4,
 slice
 a_4
 n_15
 m_4] ∧
 CallA
 Tryz.prog
 85
 [agg
 #[Value.bool
 b,
 slice
 a
 n_13
 m],
 agg
 #[Value.bool
 b_4,
 slice
 a_4
 n_15
 m_4]]
 h
 fun
 (v :
 Value)
 (h :
 Heap) =>
 ∃ (b :
 Bool),
 ∃ (a
 :
 Option
 Addr),
 ∃
 (n_16
 :
 Nat),
 ∃
 (m
 :
 Nat),
 v =
 agg
 #[Value.bool
 b,
 slice
 a
 n_16
 m] ∧
 CallA
 Tryz.prog
 84
 [agg
 #[Value.bool
 b,
 slice
 a
 n_16
 m]]
 h
 fun
 (v :
 Value)
 (h :
 Heap) =>
 ∃
 (n_17
 :
 Int),
 ∃
 (n_18
 :
 Int),
 v =
 tuple
 #[int
 IntKind.i64
 n_17,
 int
 IntKind.i64
 n_18] ∧
 Br
 (n_2 !=
 0)
 (Ret
 h
 K
 (int
 IntKind.i64
 3))
 (Br
 (n_9 !=
 0)
 (Ret
 h
 K
 (int
 IntKind.i64
 3))
 (Br
 (n_18 !=
 0)
 (Ret
 h
 K
 (int
 IntKind.i64
 3))
 (L_pref08_Ledger_Swap_1010
 l
 member
 get
 give
 given
 n
 n_8
 n_17
 h
 K)))
theorem L_pref08_Ledger_Swap_1005r (l : Option Addr) (member : Int) (get : Int) (give : Int) (got : Int) (given : Int) (h : Heap) (K : Value → Heap → Prop) (k : L_pref08_Ledger_Swap_1005T l member get give got given h K) : L_pref08_Ledger_Swap_1005 l member get give got given h K :=
 CutAt.of_ev (cs := [3, 5, 10]) Tryz.func52 mixed (fun junk => by kernel_rfl) k
def L_pref08_Ledger_Swap_1010T (l : Option Addr) (member : Int) (get : Int) (give : Int) (given : Int) (n : Int) (m : Int) (k' : Int) (h : Heap) (K : Value → Heap → Prop) : Prop :=
 withAddr l fun (b o : Nat) =>
 ∃ (a : Option Addr),
 ∃ (n_1 : Nat),
 ∃ (m_1 : Nat),
 Heap.cell h b o = some (slice a n_1 m_1) ∧
 0 ≤ member ∧
 member < (↑n_1 : Int) ∧
 withAddr a fun (b o : Nat) =>
 ∃ (a : Option Addr),
 ∃ (n_2 : Nat),
 ∃ (m_2 : Nat),
 Heap.cell h b (o + Int.toNat member) = some (slice a n_2 m_2) ∧
 0 ≤ get ∧
 get < (↑n_2 : Int) ∧
 withAddr a fun (b o : Nat) =>
 Heap.canSt h b (o + Int.toNat get) 1 ∧
 withAddr l fun (b_1 o_1 : Nat) =>
 ∃ (a : Option Addr),
 ∃ (n_3 : Nat),
 ∃ (m_3 : Nat),
 Heap.cell (Heap.setN h b (o + Int.toNat get) [int IntKind.i64 n]) b_1 (o_1 + 1) = some (slice a n_3 m_3) ∧
 0 ≤ get ∧
 get < (↑n_3 : Int) ∧
 withAddr a fun (b_2 o_2 : Nat) =>
 Heap.canSt (Heap.setN h b (o + Int.toNat get) [int IntKind.i64 n]) b_2 (o_2 + Int.toNat get) 1 ∧
 withAddr l fun (b_3 o_3 : Nat) =>
 ∃ (a : Option Addr),
 ∃ (n_4 : Nat),
 ∃ (m_4 : Nat),
 Heap.cell (Heap.setN (Heap.setN h b (o + Int.toNat get) [int IntKind.i64 n]) b_2 (o_2 + Int.toNat get) [int IntKind.i64 m]) b_3 o_3 = some (slice a n_4 m_4) ∧
 0 ≤ member ∧
 member < (↑n_4 : Int) ∧
 withAddr a fun (b_4 o_4 : Nat) =>
 ∃ (a : Option Addr),
 ∃ (n_5 : Nat),
 ∃ (m_5 : Nat),
 Heap.cell (Heap.setN (Heap.setN h b (o + Int.toNat get) [int IntKind.i64 n]) b_2 (o_2 + Int.toNat get) [int IntKind.i64 m]) b_4
 (o_4 + Int.toNat member) =
 some (slice a n_5 m_5) ∧
 0 ≤ give ∧
 give < (↑n_5 : Int) ∧
 withAddr a fun (b_5 o_5 : Nat) =>
 Heap.canSt (Heap.setN (Heap.setN h b (o + Int.toNat get) [int IntKind.i64 n]) b_2 (o_2 + Int.toNat get) [int IntKind.i64 m]) b_5
 (o_5 + Int.toNat give) 1 ∧
 withAddr l fun (b_6 o_6 : Nat) =>
 ∃ (a : Option Addr),
 ∃ (n_6 : Nat),
 ∃ (m_6 : Nat),
 Heap.cell
 (Heap.setN (Heap.setN (Heap.setN h b (o + Int.toNat get) [int IntKind.i64 n]) b_2 (o_2 + Int.toNat get) [int IntKind.i64 m])
 b_5 (o_5 + Int.toNat give) [int IntKind.i64 k'])
 b_6 (o_6 + 1) =
 some (slice a n_6 m_6) ∧
 withAddr l fun (b_7 o_7 : Nat) =>
 ∃ (a_1 : Option Addr),
 ∃ (n_7 : Nat),
 ∃ (m_7 : Nat),
 Heap.cell
 (Heap.setN
 (Heap.setN (Heap.setN h b (o + Int.toNat get) [int IntKind.i64 n]) b_2 (o_2 + Int.toNat get)
 [int IntKind.i64 m])
 b_5 (o_5 + Int.toNat give) [int IntKind.i64 k'])
 b_7 (o_7 + 1) =
 some (slice a_1 n_7 m_7) ∧
 0 ≤ give ∧
 give < (↑n_7 : Int) ∧
 withAddr a_1 fun (b_8 o_8 : Nat) =>
 ∃ (n_8 : Int),
 Heap.cell
 (Heap.setN
 (Heap.setN (Heap.setN h b (o + Int.toNat get) [int IntKind.i64 n]) b_2 (o_2 + Int.toNat get)
 [int IntKind.i64 m])
 b_5 (o_5 + Int.toNat give) [int IntKind.i64 k'])
 b_8 (o_8 + Int.toNat give) =
 some (int IntKind.i64 n_8) ∧
 0 ≤ give ∧
 give < (↑n_6 : Int) ∧
 withAddr a fun (b_9 o_9 : Nat) =>
 Heap.canSt
 (Heap.setN
 (Heap.setN (Heap.setN h b (o + Int.toNat get) [int IntKind.i64 n]) b_2 (o_2 + Int.toNat get)
 [int IntKind.i64 m])
 b_5 (o_5 + Int.toNat give) [int IntKind.i64 k'])
 b_9 (o_9 + Int.toNat give) 1 ∧
 Ret
 (Heap.setN
 (Heap.setN
 (Heap.setN (Heap.setN h b (o + Int.toNat get) [int IntKind.i64 n]) b_2 (o_2 + Int.toNat get)
 [int IntKind.i64 m])
 b_5 (o_5 + Int.toNat give) [int IntKind.i64 k'])
 b_9 (o_9 + Int.toNat give) [int IntKind.i64 (IntKind.wrap IntKind.i64 (n_8 - given))])
 K (int IntKind.i64 0)
theorem L_pref08_Ledger_Swap_1010r (l : Option Addr) (member : Int) (get : Int) (give : Int) (given : Int) (n : Int) (m : Int) (k' : Int) (h : Heap) (K : Value → Heap → Prop) (k : L_pref08_Ledger_Swap_1010T l member get give given n m k' h K) : L_pref08_Ledger_Swap_1010 l member get give given n m k' h K :=
 CutAt.of_ev (cs := [3, 5, 10]) Tryz.func52 mixed (fun junk => by kernel_rfl) k
def F_pref08_Ledger_SwapT (l : Option Addr) (member : Int) (get : Int) (give : Int) (got : Int) (given : Int) (h : Heap) (K : Value → Heap → Prop) : Prop :=
 CallA Tryz.prog fn_pref08_Ledger_Has [pointer l, int IntKind.i64 member, int IntKind.i64 get] h fun (v : Value) (h : Heap) =>
 ∃ (b : Bool),
 v = Value.bool b ∧
 Br (!b) (Ret h K (int IntKind.i64 1))
 (CallA Tryz.prog fn_pref08_Ledger_Has [pointer l, int IntKind.i64 member, int IntKind.i64 give] h fun (v : Value) (h : Heap) =>
 ∃ (b : Bool),
 v = Value.bool b ∧
 Br (!b) (Ret h K (int IntKind.i64 1))
 (Br (get == give) (Ret h K (int IntKind.i64 1)) (Br (decide (got < 1)) (Ret h K (int IntKind.i64 1)) (Br (decide (given < 1)) (Ret h K (int IntKind.i64 1)) (L_pref08_Ledger_Swap_1003 l member get give got given h K)))))
theorem F_pref08_Ledger_Swap (l : Option Addr) (member : Int) (get : Int) (give : Int) (got : Int) (given : Int) (h : Heap) (K : Value → Heap → Prop) (k : F_pref08_Ledger_SwapT l member get give got given h K) : CallA Tryz.prog fn_pref08_Ledger_Swap [pointer l, int IntKind.i64 member, int IntKind.i64 get, int IntKind.i64 give, int IntKind.i64 got, int IntKind.i64 given] h K :=
 CallA.of_ev (cs := [3, 5, 10]) Tryz.func52 (by kernel_rfl) (fun _ _ => Tryz.call52 _ _) mixed (by kernel_rfl) (by kernel_rfl) k
def L_ref08_eight_0 (u : Int) (s : ByteArray) (i : Int) (h : Heap) (K : Value → Heap → Prop) : Prop :=
 LoopAt Tryz.prog Tryz.f57 57 (loopK Tryz.f57 0) (sp 22 [(3, int IntKind.u64 u), (4, string s), (5, int IntKind.i64 i)]) h K
def L_ref08_eight_0T (u : Int) (s : ByteArray) (i : Int) (h : Heap) (K : Value → Heap → Prop) : Prop :=
 Br (decide (i < 8))
 (newB h [int IntKind.u8 (IntKind.wrap IntKind.u8 (Int.tmod u 256))] 5 fun (r : Nat) (h : Heap) =>
 StrA h (some { block := r, off := 0 }) 1 fun (s_1 : ByteArray) =>
 (↑(ByteArray.size s_1 + ByteArray.size s) : Int) ≤ 9223372036854775807 ∧ L_ref08_eight_0 (IntKind.wrap IntKind.u64 (Int.tdiv u 256)) (s_1 ++ s) (IntKind.wrap IntKind.i64 (i + 1)) h K)
 (Ret h K (string s))
theorem L_ref08_eight_0r (u : Int) (s : ByteArray) (i : Int) (h : Heap) (K : Value → Heap → Prop) (k : L_ref08_eight_0T u s i h K) : L_ref08_eight_0 u s i h K :=
 LoopAt.of_ev (cs := []) Tryz.func57 mixed (fun junk => by kernel_rfl) k
def F_ref08_eightT (n : Int) (h : Heap) (K : Value → Heap → Prop) : Prop :=
 L_ref08_eight_0 (IntKind.wrap IntKind.u64 n) { data := #[] } 0 h K
theorem F_ref08_eight (n : Int) (h : Heap) (K : Value → Heap → Prop) (k : F_ref08_eightT n h K) : CallA Tryz.prog fn_ref08_eight [int IntKind.i64 n] h K :=
 CallA.of_ev (cs := []) Tryz.func57 (by kernel_rfl) (fun _ _ => Tryz.call57 _ _) mixed (by kernel_rfl) (by kernel_rfl) k
def L_pref08_Ledger_Text_0 (l : Option Addr) (s : ByteArray) (c : Int) (h : Heap) (K : Value → Heap → Prop) : Prop :=
 LoopAt Tryz.prog Tryz.f19 19 (loopK Tryz.f19 0) (sp 72 [(0, pointer l), (3, string s), (4, int IntKind.i64 c)]) h K
def L_pref08_Ledger_Text_1 (l : Option Addr) (s : ByteArray) (m : Int) (h : Heap) (K : Value → Heap → Prop) : Prop :=
 LoopAt Tryz.prog Tryz.f19 19 (loopK Tryz.f19 1) (sp 72 [(0, pointer l), (3, string s), (5, int IntKind.i64 m)]) h K
def L_pref08_Ledger_Text_2 (l : Option Addr) (s : ByteArray) (m : Int) (c : Int) (h : Heap) (K : Value → Heap → Prop) : Prop :=
 LoopAt Tryz.prog Tryz.f19 19 (loopK Tryz.f19 2) (sp 72 [(0, pointer l), (3, string s), (5, int IntKind.i64 m), (6, int IntKind.i64 c)]) h K
def L_pref08_Ledger_Text_0T (l : Option Addr) (s : ByteArray) (c : Int) (h : Heap) (K : Value → Heap → Prop) : Prop :=
 withAddr l fun (b o : Nat) =>
 ∃ (a : Option Addr),
 ∃ (n : Nat),
 ∃ (m : Nat),
 Heap.cell h b (o + 1) = some (slice a n m) ∧
 Br (decide (c < (↑n : Int)))
 (withAddr l fun (b o : Nat) =>
 ∃ (a : Option Addr),
 ∃ (n : Nat),
 ∃ (m : Nat),
 Heap.cell h b (o + 1) = some (slice a n m) ∧
 0 ≤ c ∧
 c < (↑n : Int) ∧
 withAddr a fun (b o : Nat) =>
 ∃ (n : Int),
 Heap.cell h b (o + Int.toNat c) = some (int IntKind.i64 n) ∧
 CallA Tryz.prog fn_ref08_eight [int IntKind.i64 n] h fun (v : Value) (h : Heap) =>
 ∃ (s_1 : ByteArray), v = string s_1 ∧ (↑(ByteArray.size s + ByteArray.size s_1) : Int) ≤ 9223372036854775807 ∧ L_pref08_Ledger_Text_0 l (s ++ s_1) (IntKind.wrap IntKind.i64 (c + 1)) h K)
 (L_pref08_Ledger_Text_1 l s 0 h K)
theorem L_pref08_Ledger_Text_0r (l : Option Addr) (s : ByteArray) (c : Int) (h : Heap) (K : Value → Heap → Prop) (k : L_pref08_Ledger_Text_0T l s c h K) : L_pref08_Ledger_Text_0 l s c h K :=
 LoopAt.of_ev (cs := []) Tryz.func19 mixed (fun junk => by kernel_rfl) k
def L_pref08_Ledger_Text_1T (l : Option Addr) (s : ByteArray) (m : Int) (h : Heap) (K : Value → Heap → Prop) : Prop :=
 withAddr l fun (b o : Nat) => ∃ (a : Option Addr), ∃ (n : Nat), ∃ (m_1 : Nat), Heap.cell h b o = some (slice a n m_1) ∧ Br (decide (m < (↑n : Int))) (L_pref08_Ledger_Text_2 l s m 0 h K) (Ret h K (string s))
theorem L_pref08_Ledger_Text_1r (l : Option Addr) (s : ByteArray) (m : Int) (h : Heap) (K : Value → Heap → Prop) (k : L_pref08_Ledger_Text_1T l s m h K) : L_pref08_Ledger_Text_1 l s m h K :=
 LoopAt.of_ev (cs := []) Tryz.func19 mixed (fun junk => by kernel_rfl) k
def L_pref08_Ledger_Text_2T (l : Option Addr) (s : ByteArray) (m : Int) (c : Int) (h : Heap) (K : Value → Heap → Prop) : Prop :=
 withAddr l fun (b o : Nat) =>
 ∃ (a : Option Addr),
 ∃ (n : Nat),
 ∃ (m_1 : Nat),
 Heap.cell h b (o + 1) = some (slice a n m_1) ∧
 Br (decide (c < (↑n : Int)))
 (withAddr l fun (b o : Nat) =>
 ∃ (a : Option Addr),
 ∃ (n : Nat),
 ∃ (m_2 : Nat),
 Heap.cell h b o = some (slice a n m_2) ∧
 0 ≤ m ∧
 m < (↑n : Int) ∧
 withAddr a fun (b o : Nat) =>
 ∃ (a : Option Addr),
 ∃ (n : Nat),
 ∃ (m_3 : Nat),
 Heap.cell h b (o + Int.toNat m) = some (slice a n m_3) ∧
 0 ≤ c ∧
 c < (↑n : Int) ∧
 withAddr a fun (b o : Nat) =>
 ∃ (n : Int),
 Heap.cell h b (o + Int.toNat c) = some (int IntKind.i64 n) ∧
 CallA Tryz.prog fn_ref08_eight [int IntKind.i64 n] h fun (v : Value) (h : Heap) =>
 ∃ (s_1 : ByteArray), v = string s_1 ∧ (↑(ByteArray.size s + ByteArray.size s_1) : Int) ≤ 9223372036854775807 ∧ L_pref08_Ledger_Text_2 l (s ++ s_1) m (IntKind.wrap IntKind.i64 (c + 1)) h K)
 (L_pref08_Ledger_Text_1 l s (IntKind.wrap IntKind.i64 (m + 1)) h K)
theorem L_pref08_Ledger_Text_2r (l : Option Addr) (s : ByteArray) (m : Int) (c : Int) (h : Heap) (K : Value → Heap → Prop) (k : L_pref08_Ledger_Text_2T l s m c h K) : L_pref08_Ledger_Text_2 l s m c h K :=
 LoopAt.of_ev (cs := []) Tryz.func19 mixed (fun junk => by kernel_rfl) k
def F_pref08_Ledger_TextT (l : Option Addr) (h : Heap) (K : Value → Heap → Prop) : Prop :=
 withAddr l fun (b o : Nat) =>
 ∃ (a : Option Addr),
 ∃ (n : Nat),
 ∃ (m : Nat),
 Heap.cell h b o = some (slice a n m) ∧
 withAddr l fun (b o : Nat) =>
 ∃ (a : Option Addr),
 ∃ (n_1 : Nat),
 ∃ (m : Nat),
 Heap.cell h b (o + 1) = some (slice a n_1 m) ∧
 newB h [int IntKind.u8 (IntKind.wrap IntKind.u8 (↑n : Int)), int IntKind.u8 (IntKind.wrap IntKind.u8 (↑n_1 : Int))] 5 fun (r : Nat) (h : Heap) =>
 StrA h (some { block := r, off := 0 }) 2 fun (s : ByteArray) => L_pref08_Ledger_Text_0 l s 0 h K
theorem F_pref08_Ledger_Text (l : Option Addr) (h : Heap) (K : Value → Heap → Prop) (k : F_pref08_Ledger_TextT l h K) : CallA Tryz.prog fn_pref08_Ledger_Text [pointer l] h K :=
 CallA.of_ev (cs := []) Tryz.func19 (by kernel_rfl) (fun _ _ => Tryz.call19 _ _) mixed (by kernel_rfl) (by kernel_rfl) k
end Go.Proofs.YtghdadniddoboaaGreat

namespace Go.Proofs.YtghdadniddoboaaGreat
open Go Go.Sy Go.Value
set_option linter.unusedVariables false
set_option maxRecDepth 100000
def L_ref10_Fits_0 (l : Option Addr) (limits : Option Addr) (limitsn : Nat) (limitsc : Nat) (i : Int) (h : Heap) (K : Value → Heap → Prop) : Prop :=
 LoopAt Tryz.prog Tryz.f39 39 (loopK Tryz.f39 0) (sp 59 [(0, pointer l), (1, slice limits limitsn limitsc), (5, int IntKind.i64 i)]) h K
def L_ref10_Fits_1 (l : Option Addr) (limits : Option Addr) (limitsn : Nat) (limitsc : Nat) (i : Int) (c : Int) (h : Heap) (K : Value → Heap → Prop) : Prop :=
 LoopAt Tryz.prog Tryz.f39 39 (loopK Tryz.f39 1) (sp 59 [(0, pointer l), (1, slice limits limitsn limitsc), (5, int IntKind.i64 i), (6, int IntKind.i64 c)]) h K
def L_ref10_Fits_0T (l : Option Addr) (limits : Option Addr) (limitsn : Nat) (limitsc : Nat) (i : Int) (h : Heap) (K : Value → Heap → Prop) : Prop :=
 Br (decide (i < (↑limitsn : Int)))
 (0 ≤ i ∧
 i < (↑limitsn : Int) ∧
 withAddr limits fun (b o : Nat) =>
 ∃ (a : Option Addr),
 ∃ (n : Nat),
 ∃ (m : Nat),
 Heap.cell h b (o + Int.toNat i * 2) = some (slice a n m) ∧
 withAddr l fun (b o : Nat) =>
 ∃ (a : Option Addr),
 ∃ (n_1 : Nat),
 ∃ (m : Nat),
 Heap.cell h b (o + 1) = some (slice a n_1 m) ∧
 Br ((↑n : Int) != (↑n_1 : Int)) (Ret h K (Value.bool false))
 (0 ≤ i ∧
 i < (↑limitsn : Int) ∧
 withAddr limits fun (b o : Nat) =>
 ∃ (n : Int), Heap.cell h b (o + Int.toNat i * 2 + 1) = some (int IntKind.i64 n) ∧ Br (decide (n < 0)) (Ret h K (Value.bool false)) (L_ref10_Fits_1 l limits limitsn limitsc i 0 h K)))
 (Ret h K (Value.bool true))
theorem L_ref10_Fits_0r (l : Option Addr) (limits : Option Addr) (limitsn : Nat) (limitsc : Nat) (i : Int) (h : Heap) (K : Value → Heap → Prop) (k : L_ref10_Fits_0T l limits limitsn limitsc i h K) : L_ref10_Fits_0 l limits limitsn limitsc i h K :=
 LoopAt.of_ev (cs := []) Tryz.func39 mixed (fun junk => by kernel_rfl) k
def L_ref10_Fits_1T (l : Option Addr) (limits : Option Addr) (limitsn : Nat) (limitsc : Nat) (i : Int) (c : Int) (h : Heap) (K : Value → Heap → Prop) : Prop :=
 withAddr l fun (b o : Nat) =>
 ∃ (a : Option Addr),
 ∃ (n : Nat),
 ∃ (m : Nat),
 Heap.cell h b (o + 1) = some (slice a n m) ∧
 Br (decide (c < (↑n : Int)))
 (0 ≤ i ∧
 i < (↑limitsn : Int) ∧
 withAddr limits fun (b o : Nat) =>
 ∃ (a : Option Addr),
 ∃ (n : Nat),
 ∃ (m : Nat),
 Heap.cell h b (o + Int.toNat i * 2) = some (slice a n m) ∧
 0 ≤ c ∧
 c < (↑n : Int) ∧
 withAddr a fun (b o : Nat) =>
 ∃ (n : Int),
 Heap.cell h b (o + Int.toNat c) = some (int IntKind.i64 n) ∧ Br (decide (n < 0)) (Ret h K (Value.bool false)) (L_ref10_Fits_1 l limits limitsn limitsc i (IntKind.wrap IntKind.i64 (c + 1)) h K))
 (L_ref10_Fits_0 l limits limitsn limitsc (IntKind.wrap IntKind.i64 (i + 1)) h K)
theorem L_ref10_Fits_1r (l : Option Addr) (limits : Option Addr) (limitsn : Nat) (limitsc : Nat) (i : Int) (c : Int) (h : Heap) (K : Value → Heap → Prop) (k : L_ref10_Fits_1T l limits limitsn limitsc i c h K) : L_ref10_Fits_1 l limits limitsn limitsc i c h K :=
 LoopAt.of_ev (cs := []) Tryz.func39 mixed (fun junk => by kernel_rfl) k
def F_ref10_FitsT (l : Option Addr) (limits : Option Addr) (limitsn : Nat) (limitsc : Nat) (h : Heap) (K : Value → Heap → Prop) : Prop :=
 withAddr l fun (b o : Nat) => ∃ (a : Option Addr), ∃ (n : Nat), ∃ (m : Nat), Heap.cell h b o = some (slice a n m) ∧ Br ((↑limitsn : Int) != (↑n : Int)) (Ret h K (Value.bool false)) (L_ref10_Fits_0 l limits limitsn limitsc 0 h K)
theorem F_ref10_Fits (l : Option Addr) (limits : Option Addr) (limitsn : Nat) (limitsc : Nat) (h : Heap) (K : Value → Heap → Prop) (k : F_ref10_FitsT l limits limitsn limitsc h K) : CallA Tryz.prog fn_ref10_Fits [pointer l, slice limits limitsn limitsc] h K :=
 CallA.of_ev (cs := []) Tryz.func39 (by kernel_rfl) (fun _ _ => Tryz.call39 _ _) mixed (by kernel_rfl) (by kernel_rfl) k
def F_ref10_NewT (t : Option Addr) (tn : Nat) (tc : Nat) (l : Option Addr) (limits : Option Addr) (limitsn : Nat) (limitsc : Nat) (h : Heap) (K : Value → Heap → Prop) : Prop :=
 CallA Tryz.prog fn_ref03_Check [slice t tn tc] h fun (v : Value) (h : Heap) =>
 ∃ (n : Int),
 v = int IntKind.i64 n ∧
 Br (n != 0) (Ret h K (tuple #[pointer none, int IntKind.i64 n]))
 (withAddr l fun (b o : Nat) =>
 ∃ (a : Option Addr),
 ∃ (n : Nat),
 ∃ (m : Nat),
 Heap.cell h b (o + 1) = some (slice a n m) ∧
 Br ((↑tn : Int) != (↑n : Int)) (Ret h K (tuple #[pointer none, int IntKind.i64 1]))
 (CallA Tryz.prog fn_ref10_Fits [pointer l, slice limits limitsn limitsc] h fun (v : Value) (h : Heap) =>
 ∃ (b : Bool),
 v = Value.bool b ∧
 Br (!b) (Ret h K (tuple #[pointer none, int IntKind.i64 1]))
 (0 ≤ (↑limitsn : Int) ∧
 (↑limitsn : Int) ≤ (↑limitsn : Int) ∧
 (↑limitsn : Int) ≤ 281474976710656 ∧
 1 * (↑limitsn : Int) ≤ 281474976710656 ∧
 newB h (repL (Int.toNat (↑limitsn : Int)) [Value.bool false]) 4 fun (r : Nat) (h : Heap) =>
 newB h [slice t tn tc, pointer l, slice limits limitsn limitsc, slice (some { block := r, off := 0 }) (Int.toNat (↑limitsn : Int)) (Int.toNat (↑limitsn : Int))] 56
 fun (r : Nat) (h : Heap) =>
 CallA Tryz.prog fn_pref10_Guard_Judge [pointer (some { block := r, off := 0 })] h fun (v : Value) (h : Heap) =>
 v = tuple #[] ∧ Ret h K (tuple #[pointer (some { block := r, off := 0 }), int IntKind.i64 0]))))
theorem F_ref10_New (t : Option Addr) (tn : Nat) (tc : Nat) (l : Option Addr) (limits : Option Addr) (limitsn : Nat) (limitsc : Nat) (h : Heap) (K : Value → Heap → Prop) (k : F_ref10_NewT t tn tc l limits limitsn limitsc h K) : CallA Tryz.prog fn_ref10_New [slice t tn tc, pointer l, slice limits limitsn limitsc] h K :=
 CallA.of_ev (cs := []) Tryz.func9 (by kernel_rfl) (fun _ _ => Tryz.call9 _ _) mixed (by kernel_rfl) (by kernel_rfl) k
def L_pref10_Guard_Judge_0 (g : Option Addr) (m : Int) (h : Heap) (K : Value → Heap → Prop) : Prop :=
 LoopAt Tryz.prog Tryz.f40 40 (loopK Tryz.f40 0) (sp 22 [(0, pointer g), (2, int IntKind.i64 m)]) h K
def L_pref10_Guard_Judge_0T (g : Option Addr) (m : Int) (h : Heap) (K : Value → Heap → Prop) : Prop :=
 withAddr g fun (b o : Nat) =>
 ∃ (a : Option Addr),
 ∃ (n : Nat),
 ∃ (m_1 : Nat),
 Heap.cell h b (o + 3) = some (slice a n m_1) ∧
 Br (decide (m < (↑n : Int)))
 (withAddr g fun (b o : Nat) =>
 ∃ (a : Option Addr),
 ∃ (n : Nat),
 ∃ (m_2 : Nat),
 Heap.cell h b (o + 3) = some (slice a n m_2) ∧
 CallA Tryz.prog fn_pref10_Guard_Fails [pointer g, int IntKind.i64 m, slice none 0 0] h fun (v : Value) (h_1 : Heap) =>
 ∃ (n_1 : Int),
 v = int IntKind.i64 n_1 ∧
 (Heap.le h h_1 ∨ Keeps [b] h h_1) ∧
 0 ≤ m ∧
 m < (↑n : Int) ∧
 withAddr a fun (b o : Nat) => Heap.canSt h_1 b (o + Int.toNat m) 1 ∧ L_pref10_Guard_Judge_0 g (IntKind.wrap IntKind.i64 (m + 1)) (Heap.setN h_1 b (o + Int.toNat m) [Value.bool (n_1 != 0)]) K)
 (Ret h K (tuple #[]))
theorem L_pref10_Guard_Judge_0r (g : Option Addr) (m : Int) (h : Heap) (K : Value → Heap → Prop) (k : L_pref10_Guard_Judge_0T g m h K) : L_pref10_Guard_Judge_0 g m h K :=
 LoopAt.of_ev (cs := []) Tryz.func40 mixed (fun junk => by kernel_rfl) k
def F_pref10_Guard_JudgeT (g : Option Addr) (h : Heap) (K : Value → Heap → Prop) : Prop :=
 L_pref10_Guard_Judge_0 g 0 h K
theorem F_pref10_Guard_Judge (g : Option Addr) (h : Heap) (K : Value → Heap → Prop) (k : F_pref10_Guard_JudgeT g h K) : CallA Tryz.prog fn_pref10_Guard_Judge [pointer g] h K :=
 CallA.of_ev (cs := []) Tryz.func40 (by kernel_rfl) (fun _ _ => Tryz.call40 _ _) mixed (by kernel_rfl) (by kernel_rfl) k
def L_pref10_Guard_Fails_0 (g : Option Addr) (member : Int) (batch : Option Addr) (batchn : Nat) (batchc : Nat) (bits : Int) (c : Int) (h : Heap) (K : Value → Heap → Prop) : Prop :=
 LoopAt Tryz.prog Tryz.f21 21 (loopK Tryz.f21 0) (sp 130 [(0, pointer g), (1, int IntKind.i64 member), (2, slice batch batchn batchc), (10, int IntKind.i64 bits), (11, int IntKind.i64 c)]) h K
def L_pref10_Guard_Fails_1 (g : Option Addr) (member : Int) (batch : Option Addr) (batchn : Nat) (batchc : Nat) (bits : Int) (c : Int) (b : Int) (i : Int) (h : Heap) (K : Value → Heap → Prop) : Prop :=
 LoopAt Tryz.prog Tryz.f21 21 (loopK Tryz.f21 1) (sp 130 [(0, pointer g), (1, int IntKind.i64 member), (2, slice batch batchn batchc), (10, int IntKind.i64 bits), (11, int IntKind.i64 c), (12, int IntKind.i64 b), (13, int IntKind.i64 i)]) h K
def L_pref10_Guard_Fails_0T (g : Option Addr) (member : Int) (batch : Option Addr) (batchn : Nat) (batchc : Nat) (bits : Int) (c : Int) (h : Heap) (K : Value → Heap → Prop) : Prop :=
 withAddr g fun (b o : Nat) =>
 ∃ (a : Option Addr),
 ∃ (n : Nat),
 ∃ (m : Nat),
 Heap.cell h b o = some (slice a n m) ∧
 Br (decide (c < (↑n : Int)))
 (withAddr g fun (b o : Nat) =>
 ∃ (a : Option Addr),
 Heap.cell h b (o + 1) = some (pointer a) ∧
 withAddr a fun (b o : Nat) =>
 ∃ (a : Option Addr),
 ∃ (n : Nat),
 ∃ (m : Nat),
 Heap.cell h b o = some (slice a n m) ∧
 0 ≤ member ∧
 member < (↑n : Int) ∧
 withAddr a fun (b o : Nat) =>
 ∃ (a : Option Addr),
 ∃ (n : Nat),
 ∃ (m : Nat),
 Heap.cell h b (o + Int.toNat member) = some (slice a n m) ∧
 0 ≤ c ∧
 c < (↑n : Int) ∧ withAddr a fun (b o : Nat) => ∃ (n : Int), Heap.cell h b (o + Int.toNat c) = some (int IntKind.i64 n) ∧ L_pref10_Guard_Fails_1 g member batch batchn batchc bits c n 0 h K)
 (Ret h K (int IntKind.i64 bits))
theorem L_pref10_Guard_Fails_0r (g : Option Addr) (member : Int) (batch : Option Addr) (batchn : Nat) (batchc : Nat) (bits : Int) (c : Int) (h : Heap) (K : Value → Heap → Prop) (k : L_pref10_Guard_Fails_0T g member batch batchn batchc bits c h K) : L_pref10_Guard_Fails_0 g member batch batchn batchc bits c h K :=
 LoopAt.of_ev (cs := []) Tryz.func21 mixed (fun junk => by kernel_rfl) k
def L_pref10_Guard_Fails_1T (g : Option Addr) (member : Int) (batch : Option Addr) (batchn : Nat) (batchc : Nat) (bits : Int) (c : Int) (b : Int) (i : Int) (h : Heap) (K : Value → Heap → Prop) : Prop :=
 Br (decide (i < (↑batchn : Int)))
 (0 ≤ i ∧
 i < (↑batchn : Int) ∧
 withAddr batch fun (b_1 o : Nat) =>
 ∃ (n : Int),
 Heap.cell h b_1 (o + Int.toNat i * 3) = some (int IntKind.i64 n) ∧
 Br (n == member)
 (0 ≤ i ∧
 i < (↑batchn : Int) ∧
 withAddr batch fun (b_2 o : Nat) =>
 ∃ (n : Int),
 Heap.cell h b_2 (o + Int.toNat i * 3 + 1) = some (int IntKind.i64 n) ∧
 Br (n == c)
 (0 ≤ i ∧
 i < (↑batchn : Int) ∧
 withAddr batch fun (b_3 o : Nat) =>
 ∃ (n : Int),
 Heap.cell h b_3 (o + Int.toNat i * 3 + 2) = some (int IntKind.i64 n) ∧
 L_pref10_Guard_Fails_1 g member batch batchn batchc bits c (IntKind.wrap IntKind.i64 (b + n)) (IntKind.wrap IntKind.i64 (i + 1)) h K)
 (L_pref10_Guard_Fails_1 g member batch batchn batchc bits c b (IntKind.wrap IntKind.i64 (i + 1)) h K))
 (L_pref10_Guard_Fails_1 g member batch batchn batchc bits c b (IntKind.wrap IntKind.i64 (i + 1)) h K))
 (withAddr g fun (b_1 o : Nat) =>
 ∃ (a : Option Addr),
 ∃ (n : Nat),
 ∃ (m : Nat),
 Heap.cell h b_1 (o + 2) = some (slice a n m) ∧
 0 ≤ member ∧
 member < (↑n : Int) ∧
 withAddr a fun (b_2 o : Nat) =>
 ∃ (a : Option Addr),
 ∃ (n : Nat),
 ∃ (m : Nat),
 Heap.cell h b_2 (o + Int.toNat member * 2) = some (slice a n m) ∧
 0 ≤ c ∧
 c < (↑n : Int) ∧
 withAddr a fun (b_3 o : Nat) =>
 ∃ (n : Int),
 Heap.cell h b_3 (o + Int.toNat c) = some (int IntKind.i64 n) ∧
 Br (decide (b < IntKind.wrap IntKind.i64 (0 - n))) (Ret h K (int IntKind.i64 (IntKind.wrap IntKind.i64 (bits + 2))))
 (L_pref10_Guard_Fails_0 g member batch batchn batchc bits (IntKind.wrap IntKind.i64 (c + 1)) h K))
theorem L_pref10_Guard_Fails_1r (g : Option Addr) (member : Int) (batch : Option Addr) (batchn : Nat) (batchc : Nat) (bits : Int) (c : Int) (b : Int) (i : Int) (h : Heap) (K : Value → Heap → Prop) (k : L_pref10_Guard_Fails_1T g member batch batchn batchc bits c b i h K) : L_pref10_Guard_Fails_1 g member batch batchn batchc bits c b i h K :=
 LoopAt.of_ev (cs := []) Tryz.func21 mixed (fun junk => by kernel_rfl) k
def F_pref10_Guard_FailsT (g : Option Addr) (member : Int) (batch : Option Addr) (batchn : Nat) (batchc : Nat) (h : Heap) (K : Value → Heap → Prop) : Prop :=
 Br (decide (member < 0)) (Ret h K (int IntKind.i64 7))
 (withAddr g fun (b o : Nat) =>
 ∃ (a : Option Addr),
 ∃ (n : Nat),
 ∃ (m : Nat),
 Heap.cell h b (o + 3) = some (slice a n m) ∧
 Br (decide (member ≥ (↑n : Int))) (Ret h K (int IntKind.i64 7))
 (withAddr g fun (b o : Nat) =>
 ∃ (a : Option Addr),
 ∃ (n : Nat),
 ∃ (m : Nat),
 Heap.cell h b o = some (slice a n m) ∧
 withAddr g fun (b o : Nat) =>
 ∃ (a_1 : Option Addr),
 Heap.cell h b (o + 1) = some (pointer a_1) ∧
 withAddr a_1 fun (b o : Nat) =>
 ∃ (a_2 : Option Addr),
 ∃ (n_1 : Nat),
 ∃ (m_1 : Nat),
 Heap.cell h b o = some (slice a_2 n_1 m_1) ∧
 0 ≤ member ∧
 member < (↑n_1 : Int) ∧
 withAddr a_2 fun (b o : Nat) =>
 ∃ (a_3 : Option Addr),
 ∃ (n_2 : Nat),
 ∃ (m_2 : Nat),
 Heap.cell h b (o + Int.toNat member) = some (slice a_3 n_2 m_2) ∧
 CallA Tryz.prog fn_ref09_If [slice a n m, slice a_3 n_2 m_2, int IntKind.i64 member, slice batch batchn batchc] h fun (v : Value) (h : Heap) =>
 ∃ (n : Int),
 ∃ (n_3 : Int),
 ∃ (n_4 : Int),
 v = tuple #[int IntKind.i64 n, int IntKind.i64 n_3, int IntKind.i64 n_4] ∧
 Br (n_4 != 0) (Ret h K (int IntKind.i64 7))
 (Br (decide (n < 0))
 (withAddr g fun (b o : Nat) =>
 ∃ (a : Option Addr),
 ∃ (n : Nat),
 ∃ (m : Nat),
 Heap.cell h b (o + 2) = some (slice a n m) ∧
 0 ≤ member ∧
 member < (↑n : Int) ∧
 withAddr a fun (b o : Nat) =>
 ∃ (n : Int),
 Heap.cell h b (o + Int.toNat member * 2 + 1) = some (int IntKind.i64 n) ∧
 Br (decide (n_3 > n)) (L_pref10_Guard_Fails_0 g member batch batchn batchc 5 0 h K) (L_pref10_Guard_Fails_0 g member batch batchn batchc 1 0 h K))
 (withAddr g fun (b o : Nat) =>
 ∃ (a : Option Addr),
 ∃ (n : Nat),
 ∃ (m : Nat),
 Heap.cell h b (o + 2) = some (slice a n m) ∧
 0 ≤ member ∧
 member < (↑n : Int) ∧
 withAddr a fun (b o : Nat) =>
 ∃ (n : Int),
 Heap.cell h b (o + Int.toNat member * 2 + 1) = some (int IntKind.i64 n) ∧
 Br (decide (n_3 > n)) (L_pref10_Guard_Fails_0 g member batch batchn batchc 4 0 h K) (L_pref10_Guard_Fails_0 g member batch batchn batchc 0 0 h K)))))
theorem F_pref10_Guard_Fails (g : Option Addr) (member : Int) (batch : Option Addr) (batchn : Nat) (batchc : Nat) (h : Heap) (K : Value → Heap → Prop) (k : F_pref10_Guard_FailsT g member batch batchn batchc h K) : CallA Tryz.prog fn_pref10_Guard_Fails [pointer g, int IntKind.i64 member, slice batch batchn batchc] h K :=
 CallA.of_ev (cs := []) Tryz.func21 (by kernel_rfl) (fun _ _ => Tryz.call21 _ _) mixed (by kernel_rfl) (by kernel_rfl) k
def F_ref10_oneT (member : Int) (cur : Int) (amount : Int) (h : Heap) (K : Value → Heap → Prop) : Prop :=
 newB h [int IntKind.i64 member, int IntKind.i64 cur, int IntKind.i64 amount] 65 fun (r : Nat) (h : Heap) => Ret h K (slice (some { block := r, off := 0 }) 1 1)
theorem F_ref10_one (member : Int) (cur : Int) (amount : Int) (h : Heap) (K : Value → Heap → Prop) (k : F_ref10_oneT member cur amount h K) : CallA Tryz.prog fn_ref10_one [int IntKind.i64 member, int IntKind.i64 cur, int IntKind.i64 amount] h K :=
 CallA.of_ev (cs := []) Tryz.func46 (by kernel_rfl) (fun _ _ => Tryz.call46 _ _) mixed (by kernel_rfl) (by kernel_rfl) k
def F_pref10_Guard_InT (g : Option Addr) (member : Int) (cur : Int) (amount : Int) (h : Heap) (K : Value → Heap → Prop) : Prop :=
 withAddr g fun (b o : Nat) =>
 ∃ (a : Option Addr),
 Heap.cell h b (o + 1) = some (pointer a) ∧
 CallA Tryz.prog fn_pref08_Ledger_Has [pointer a, int IntKind.i64 member, int IntKind.i64 cur] h fun (v : Value) (h : Heap) =>
 ∃ (b : Bool),
 v = Value.bool b ∧
 Br (!b) (Ret h K (int IntKind.i64 1))
 (Br (decide (amount < 1)) (Ret h K (int IntKind.i64 1))
 (withAddr g fun (b o : Nat) =>
 ∃ (a : Option Addr),
 ∃ (n : Nat),
 ∃ (m : Nat),
 Heap.cell h b o = some (slice a n m) ∧
 withAddr g fun (b_1 o : Nat) =>
 ∃ (a_1 : Option Addr),
 Heap.cell h b_1 (o + 1) = some (pointer a_1) ∧
 withAddr a_1 fun (b_2 o : Nat) =>
 ∃ (a_2 : Option Addr),
 ∃ (n_1 : Nat),
 ∃ (m_1 : Nat),
 Heap.cell h b_2 o = some (slice a_2 n_1 m_1) ∧
 0 ≤ member ∧
 member < (↑n_1 : Int) ∧
 withAddr a_2 fun (b_3 o : Nat) =>
 ∃ (a_3 : Option Addr),
 ∃ (n_2 : Nat),
 ∃ (m_2 : Nat),
 Heap.cell h b_3 (o + Int.toNat member) = some (slice a_3 n_2 m_2) ∧
 CallA Tryz.prog fn_ref10_one [int IntKind.i64 member, int IntKind.i64 cur, int IntKind.i64 amount] h fun (v : Value) (h_1 : Heap) =>
 ∃ (a_4 : Option Addr),
 ∃ (n_3 : Nat),
 ∃ (m_3 : Nat),
 v = slice a_4 n_3 m_3 ∧
 (Heap.le h h_1 ∨ Keeps [b, b_1, b_2, b_3] h h_1) ∧
 CallA Tryz.prog fn_ref09_If [slice a n m, slice a_3 n_2 m_2, int IntKind.i64 member, slice a_4 n_3 m_3] h_1 fun (v : Value) (h : Heap) =>
 ∃ (n : Int),
 ∃ (n_4 : Int),
 ∃ (n_5 : Int),
 v = tuple #[int IntKind.i64 n, int IntKind.i64 n_4, int IntKind.i64 n_5] ∧
 Br (n_5 != 0) (Ret h K (int IntKind.i64 n_5))
 (withAddr g fun (b o : Nat) =>
 ∃ (a : Option Addr),
 Heap.cell h b (o + 1) = some (pointer a) ∧
 CallA Tryz.prog fn_pref08_Ledger_In [pointer a, int IntKind.i64 member, int IntKind.i64 cur, int IntKind.i64 amount] h
 fun (v : Value) (h : Heap) =>
 ∃ (n : Int),
 v = int IntKind.i64 n ∧
 Br (n == 0)
 (CallA Tryz.prog fn_pref10_Guard_Fails [pointer g, int IntKind.i64 member, slice none 0 0] h fun (v : Value) (h : Heap) =>
 ∃ (n_6 : Int),
 v = int IntKind.i64 n_6 ∧
 Br (n_6 == 0)
 (withAddr g fun (b o : Nat) =>
 ∃ (a : Option Addr),
 ∃ (n_7 : Nat),
 ∃ (m : Nat),
 Heap.cell h b (o + 3) = some (slice a n_7 m) ∧
 0 ≤ member ∧
 member < (↑n_7 : Int) ∧
 withAddr a fun (b o : Nat) =>
 Heap.canSt h b (o + Int.toNat member) 1 ∧
 Ret (Heap.setN h b (o + Int.toNat member) [Value.bool false]) K (int IntKind.i64 n))
 (Ret h K (int IntKind.i64 n)))
 (Ret h K (int IntKind.i64 n)))))
theorem F_pref10_Guard_In (g : Option Addr) (member : Int) (cur : Int) (amount : Int) (h : Heap) (K : Value → Heap → Prop) (k : F_pref10_Guard_InT g member cur amount h K) : CallA Tryz.prog fn_pref10_Guard_In [pointer g, int IntKind.i64 member, int IntKind.i64 cur, int IntKind.i64 amount] h K :=
 CallA.of_ev (cs := []) Tryz.func11 (by kernel_rfl) (fun _ _ => Tryz.call11 _ _) mixed (by kernel_rfl) (by kernel_rfl) k
def F_pref10_Guard_OutT (g : Option Addr) (member : Int) (cur : Int) (amount : Int) (h : Heap) (K : Value → Heap → Prop) : Prop :=
 withAddr g fun (b o : Nat) =>
 ∃ (a : Option Addr),
 Heap.cell h b (o + 1) = some (pointer a) ∧
 CallA Tryz.prog fn_pref08_Ledger_Has [pointer a, int IntKind.i64 member, int IntKind.i64 cur] h fun (v : Value) (h : Heap) =>
 ∃ (b : Bool),
 v = Value.bool b ∧
 Br (!b) (Ret h K (int IntKind.i64 1))
 (Br (decide (amount < 1)) (Ret h K (int IntKind.i64 1))
 (withAddr g fun (b o : Nat) =>
 ∃ (a : Option Addr),
 ∃ (n : Nat),
 ∃ (m : Nat),
 Heap.cell h b (o + 3) = some (slice a n m) ∧
 0 ≤ member ∧
 member < (↑n : Int) ∧
 withAddr a fun (b o : Nat) =>
 ∃ (b_1 : Bool),
 Heap.cell h b (o + Int.toNat member) = some (Value.bool b_1) ∧
 Br b_1 (Ret h K (int IntKind.i64 10))
 (CallA Tryz.prog fn_ref10_one [int IntKind.i64 member, int IntKind.i64 cur, int IntKind.i64 (IntKind.wrap IntKind.i64 (0 - amount))] h fun (v : Value) (h : Heap) =>
 ∃ (a : Option Addr),
 ∃ (n : Nat),
 ∃ (m : Nat),
 v = slice a n m ∧
 CallA Tryz.prog fn_pref10_Guard_Fails [pointer g, int IntKind.i64 member, slice a n m] h fun (v : Value) (h : Heap) =>
 ∃ (n : Int),
 v = int IntKind.i64 n ∧
 Br (n != 0) (Ret h K (int IntKind.i64 10))
 (withAddr g fun (b o : Nat) =>
 ∃ (a : Option Addr),
 Heap.cell h b (o + 1) = some (pointer a) ∧
 CallA Tryz.prog fn_pref08_Ledger_Out [pointer a, int IntKind.i64 member, int IntKind.i64 cur, int IntKind.i64 amount] h fun (v : Value) (h : Heap) =>
 ∃ (n : Int), v = int IntKind.i64 n ∧ Ret h K (int IntKind.i64 n)))))
theorem F_pref10_Guard_Out (g : Option Addr) (member : Int) (cur : Int) (amount : Int) (h : Heap) (K : Value → Heap → Prop) (k : F_pref10_Guard_OutT g member cur amount h K) : CallA Tryz.prog fn_pref10_Guard_Out [pointer g, int IntKind.i64 member, int IntKind.i64 cur, int IntKind.i64 amount] h K :=
 CallA.of_ev (cs := []) Tryz.func12 (by kernel_rfl) (fun _ _ => Tryz.call12 _ _) mixed (by kernel_rfl) (by kernel_rfl) k
def L_pref10_Guard_Book_0 (g : Option Addr) (batch : Option Addr) (batchn : Nat) (batchc : Nat) (i : Int) (h : Heap) (K : Value → Heap → Prop) : Prop :=
 LoopAt Tryz.prog Tryz.f17 17 (loopK Tryz.f17 0) (sp 53 [(0, pointer g), (1, slice batch batchn batchc), (7, int IntKind.i64 i)]) h K
def L_pref10_Guard_Book_0T (g : Option Addr) (batch : Option Addr) (batchn : Nat) (batchc : Nat) (i : Int) (h : Heap) (K : Value → Heap → Prop) : Prop :=
 Br (decide (i < (↑batchn : Int)))
 (withAddr g fun (b o : Nat) =>
 ∃ (a : Option Addr),
 ∃ (n : Nat),
 ∃ (m : Nat),
 Heap.cell h b (o + 3) = some (slice a n m) ∧
 0 ≤ i ∧
 i < (↑batchn : Int) ∧
 withAddr batch fun (b o : Nat) =>
 ∃ (n_1 : Int),
 Heap.cell h b (o + Int.toNat i * 3) = some (int IntKind.i64 n_1) ∧
 0 ≤ n_1 ∧
 n_1 < (↑n : Int) ∧
 withAddr a fun (b o : Nat) =>
 ∃ (b_1 : Bool),
 Heap.cell h b (o + Int.toNat n_1) = some (Value.bool b_1) ∧
 Br b_1 (Ret h K (int IntKind.i64 10))
 (0 ≤ i ∧
 i < (↑batchn : Int) ∧
 withAddr batch fun (b o : Nat) =>
 ∃ (n : Int),
 Heap.cell h b (o + Int.toNat i * 3) = some (int IntKind.i64 n) ∧
 CallA Tryz.prog fn_pref10_Guard_Fails [pointer g, int IntKind.i64 n, slice batch batchn batchc] h fun (v : Value) (h : Heap) =>
 ∃ (n : Int), v = int IntKind.i64 n ∧ Br (n != 0) (Ret h K (int IntKind.i64 10)) (L_pref10_Guard_Book_0 g batch batchn batchc (IntKind.wrap IntKind.i64 (i + 1)) h K)))
 (withAddr g fun (b o : Nat) =>
 ∃ (a : Option Addr),
 Heap.cell h b (o + 1) = some (pointer a) ∧ CallA Tryz.prog fn_pref08_Ledger_Post [pointer a, slice batch batchn batchc] h fun (v : Value) (h : Heap) => ∃ (n : Int), v = int IntKind.i64 n ∧ Ret h K (int IntKind.i64 n))
theorem L_pref10_Guard_Book_0r (g : Option Addr) (batch : Option Addr) (batchn : Nat) (batchc : Nat) (i : Int) (h : Heap) (K : Value → Heap → Prop) (k : L_pref10_Guard_Book_0T g batch batchn batchc i h K) : L_pref10_Guard_Book_0 g batch batchn batchc i h K :=
 LoopAt.of_ev (cs := []) Tryz.func17 mixed (fun junk => by kernel_rfl) k
def F_pref10_Guard_BookT (g : Option Addr) (batch : Option Addr) (batchn : Nat) (batchc : Nat) (h : Heap) (K : Value → Heap → Prop) : Prop :=
 withAddr g fun (b o : Nat) =>
 ∃ (a : Option Addr),
 Heap.cell h b (o + 1) = some (pointer a) ∧
 CallA Tryz.prog fn_pref08_Ledger_Copy [pointer a] h fun (v : Value) (h : Heap) =>
 ∃ (a : Option Addr),
 v = pointer a ∧
 CallA Tryz.prog fn_pref08_Ledger_Post [pointer a, slice batch batchn batchc] h fun (v : Value) (h : Heap) =>
 ∃ (n : Int), v = int IntKind.i64 n ∧ Br (n != 0) (Ret h K (int IntKind.i64 n)) (L_pref10_Guard_Book_0 g batch batchn batchc 0 h K)
theorem F_pref10_Guard_Book (g : Option Addr) (batch : Option Addr) (batchn : Nat) (batchc : Nat) (h : Heap) (K : Value → Heap → Prop) (k : F_pref10_Guard_BookT g batch batchn batchc h K) : CallA Tryz.prog fn_pref10_Guard_Book [pointer g, slice batch batchn batchc] h K :=
 CallA.of_ev (cs := []) Tryz.func17 (by kernel_rfl) (fun _ _ => Tryz.call17 _ _) mixed (by kernel_rfl) (by kernel_rfl) k
def F_pref10_Guard_TakeT (g : Option Addr) (batch : Option Addr) (batchn : Nat) (batchc : Nat) (h : Heap) (K : Value → Heap → Prop) : Prop :=
 withAddr g fun (b o : Nat) =>
 ∃ (a : Option Addr),
 Heap.cell h b (o + 1) = some (pointer a) ∧
 CallA Tryz.prog fn_pref08_Ledger_Post [pointer a, slice batch batchn batchc] h fun (v : Value) (h : Heap) =>
 ∃ (n : Int), v = int IntKind.i64 n ∧ Br (n == 0) (CallA Tryz.prog fn_pref10_Guard_Judge [pointer g] h fun (v : Value) (h : Heap) => v = tuple #[] ∧ Ret h K (int IntKind.i64 n)) (Ret h K (int IntKind.i64 n))
theorem F_pref10_Guard_Take (g : Option Addr) (batch : Option Addr) (batchn : Nat) (batchc : Nat) (h : Heap) (K : Value → Heap → Prop) (k : F_pref10_Guard_TakeT g batch batchn batchc h K) : CallA Tryz.prog fn_pref10_Guard_Take [pointer g, slice batch batchn batchc] h K :=
 CallA.of_ev (cs := []) Tryz.func15 (by kernel_rfl) (fun _ _ => Tryz.call15 _ _) mixed (by kernel_rfl) (by kernel_rfl) k
def F_pref10_Guard_SwapT (g : Option Addr) (member : Int) (get : Int) (give : Int) (got : Int) (given : Int) (h : Heap) (K : Value → Heap → Prop) : Prop :=
 withAddr g fun (b o : Nat) =>
 ∃ (a : Option Addr),
 Heap.cell h b (o + 1) = some (pointer a) ∧
 CallA Tryz.prog fn_pref08_Ledger_Swap [pointer a, int IntKind.i64 member, int IntKind.i64 get, int IntKind.i64 give, int IntKind.i64 got, int IntKind.i64 given] h fun (v : Value) (h : Heap) =>
 ∃ (n : Int), v = int IntKind.i64 n ∧ Br (n == 0) (CallA Tryz.prog fn_pref10_Guard_Judge [pointer g] h fun (v : Value) (h : Heap) => v = tuple #[] ∧ Ret h K (int IntKind.i64 n)) (Ret h K (int IntKind.i64 n))
theorem F_pref10_Guard_Swap (g : Option Addr) (member : Int) (get : Int) (give : Int) (got : Int) (given : Int) (h : Heap) (K : Value → Heap → Prop) (k : F_pref10_Guard_SwapT g member get give got given h K) : CallA Tryz.prog fn_pref10_Guard_Swap [pointer g, int IntKind.i64 member, int IntKind.i64 get, int IntKind.i64 give, int IntKind.i64 got, int IntKind.i64 given] h K :=
 CallA.of_ev (cs := []) Tryz.func16 (by kernel_rfl) (fun _ _ => Tryz.call16 _ _) mixed (by kernel_rfl) (by kernel_rfl) k
def F_pref10_Guard_RateT (g : Option Addr) (cur : Int) (rate : Int) (h : Heap) (K : Value → Heap → Prop) : Prop :=
 Br (decide (cur ≥ 0))
 (withAddr g fun (b o : Nat) =>
 ∃ (a : Option Addr),
 ∃ (n : Nat),
 ∃ (m : Nat),
 Heap.cell h b o = some (slice a n m) ∧
 Br (decide (cur < (↑n : Int)))
 (withAddr g fun (b o : Nat) =>
 ∃ (a : Option Addr),
 ∃ (n : Nat),
 ∃ (m : Nat),
 Heap.cell h b o = some (slice a n m) ∧
 0 ≤ cur ∧
 cur < (↑n : Int) ∧
 withAddr a fun (b o : Nat) =>
 ∃ (n : Int),
 Heap.cell h b (o + Int.toNat cur * 3 + 2) = some (int IntKind.i64 n) ∧
 withAddr g fun (b o : Nat) =>
 ∃ (a : Option Addr),
 ∃ (n_1 : Nat),
 ∃ (m : Nat),
 Heap.cell h b o = some (slice a n_1 m) ∧
 CallA Tryz.prog fn_ref03_With [slice a n_1 m, int IntKind.i64 cur, int IntKind.i64 rate, int IntKind.i64 n] h fun (v : Value) (h : Heap) =>
 ∃ (a : Option Addr),
 ∃ (n : Nat),
 ∃ (m : Nat),
 ∃ (n_2 : Int),
 v = tuple #[slice a n m, int IntKind.i64 n_2] ∧
 CallA Tryz.prog fn_pref10_Guard_turn [pointer g, slice a n m, int IntKind.i64 n_2] h fun (v : Value) (h : Heap) =>
 ∃ (n : Int), v = int IntKind.i64 n ∧ Ret h K (int IntKind.i64 n))
 (withAddr g fun (b o : Nat) =>
 ∃ (a : Option Addr),
 ∃ (n : Nat),
 ∃ (m : Nat),
 Heap.cell h b o = some (slice a n m) ∧
 CallA Tryz.prog fn_ref03_With [slice a n m, int IntKind.i64 cur, int IntKind.i64 rate, int IntKind.i64 0] h fun (v : Value) (h : Heap) =>
 ∃ (a : Option Addr),
 ∃ (n : Nat),
 ∃ (m : Nat),
 ∃ (n_1 : Int),
 v = tuple #[slice a n m, int IntKind.i64 n_1] ∧
 CallA Tryz.prog fn_pref10_Guard_turn [pointer g, slice a n m, int IntKind.i64 n_1] h fun (v : Value) (h : Heap) => ∃ (n : Int), v = int IntKind.i64 n ∧ Ret h K (int IntKind.i64 n)))
 (withAddr g fun (b o : Nat) =>
 ∃ (a : Option Addr),
 ∃ (n : Nat),
 ∃ (m : Nat),
 Heap.cell h b o = some (slice a n m) ∧
 CallA Tryz.prog fn_ref03_With [slice a n m, int IntKind.i64 cur, int IntKind.i64 rate, int IntKind.i64 0] h fun (v : Value) (h : Heap) =>
 ∃ (a : Option Addr),
 ∃ (n : Nat),
 ∃ (m : Nat),
 ∃ (n_1 : Int),
 v = tuple #[slice a n m, int IntKind.i64 n_1] ∧
 CallA Tryz.prog fn_pref10_Guard_turn [pointer g, slice a n m, int IntKind.i64 n_1] h fun (v : Value) (h : Heap) => ∃ (n : Int), v = int IntKind.i64 n ∧ Ret h K (int IntKind.i64 n))
theorem F_pref10_Guard_Rate (g : Option Addr) (cur : Int) (rate : Int) (h : Heap) (K : Value → Heap → Prop) (k : F_pref10_Guard_RateT g cur rate h K) : CallA Tryz.prog fn_pref10_Guard_Rate [pointer g, int IntKind.i64 cur, int IntKind.i64 rate] h K :=
 CallA.of_ev (cs := []) Tryz.func13 (by kernel_rfl) (fun _ _ => Tryz.call13 _ _) mixed (by kernel_rfl) (by kernel_rfl) k
def F_pref10_Guard_CutT (g : Option Addr) (cur : Int) (cut : Int) (h : Heap) (K : Value → Heap → Prop) : Prop :=
 Br (decide (cur ≥ 0))
 (withAddr g fun (b o : Nat) =>
 ∃ (a : Option Addr),
 ∃ (n : Nat),
 ∃ (m : Nat),
 Heap.cell h b o = some (slice a n m) ∧
 Br (decide (cur < (↑n : Int)))
 (withAddr g fun (b o : Nat) =>
 ∃ (a : Option Addr),
 ∃ (n : Nat),
 ∃ (m : Nat),
 Heap.cell h b o = some (slice a n m) ∧
 0 ≤ cur ∧
 cur < (↑n : Int) ∧
 withAddr a fun (b o : Nat) =>
 ∃ (n : Int),
 Heap.cell h b (o + Int.toNat cur * 3 + 1) = some (int IntKind.i64 n) ∧
 withAddr g fun (b o : Nat) =>
 ∃ (a : Option Addr),
 ∃ (n_1 : Nat),
 ∃ (m : Nat),
 Heap.cell h b o = some (slice a n_1 m) ∧
 CallA Tryz.prog fn_ref03_With [slice a n_1 m, int IntKind.i64 cur, int IntKind.i64 n, int IntKind.i64 cut] h fun (v : Value) (h : Heap) =>
 ∃ (a : Option Addr),
 ∃ (n : Nat),
 ∃ (m : Nat),
 ∃ (n_2 : Int),
 v = tuple #[slice a n m, int IntKind.i64 n_2] ∧
 CallA Tryz.prog fn_pref10_Guard_turn [pointer g, slice a n m, int IntKind.i64 n_2] h fun (v : Value) (h : Heap) =>
 ∃ (n : Int), v = int IntKind.i64 n ∧ Ret h K (int IntKind.i64 n))
 (withAddr g fun (b o : Nat) =>
 ∃ (a : Option Addr),
 ∃ (n : Nat),
 ∃ (m : Nat),
 Heap.cell h b o = some (slice a n m) ∧
 CallA Tryz.prog fn_ref03_With [slice a n m, int IntKind.i64 cur, int IntKind.i64 0, int IntKind.i64 cut] h fun (v : Value) (h : Heap) =>
 ∃ (a : Option Addr),
 ∃ (n : Nat),
 ∃ (m : Nat),
 ∃ (n_1 : Int),
 v = tuple #[slice a n m, int IntKind.i64 n_1] ∧
 CallA Tryz.prog fn_pref10_Guard_turn [pointer g, slice a n m, int IntKind.i64 n_1] h fun (v : Value) (h : Heap) => ∃ (n : Int), v = int IntKind.i64 n ∧ Ret h K (int IntKind.i64 n)))
 (withAddr g fun (b o : Nat) =>
 ∃ (a : Option Addr),
 ∃ (n : Nat),
 ∃ (m : Nat),
 Heap.cell h b o = some (slice a n m) ∧
 CallA Tryz.prog fn_ref03_With [slice a n m, int IntKind.i64 cur, int IntKind.i64 0, int IntKind.i64 cut] h fun (v : Value) (h : Heap) =>
 ∃ (a : Option Addr),
 ∃ (n : Nat),
 ∃ (m : Nat),
 ∃ (n_1 : Int),
 v = tuple #[slice a n m, int IntKind.i64 n_1] ∧
 CallA Tryz.prog fn_pref10_Guard_turn [pointer g, slice a n m, int IntKind.i64 n_1] h fun (v : Value) (h : Heap) => ∃ (n : Int), v = int IntKind.i64 n ∧ Ret h K (int IntKind.i64 n))
theorem F_pref10_Guard_Cut (g : Option Addr) (cur : Int) (cut : Int) (h : Heap) (K : Value → Heap → Prop) (k : F_pref10_Guard_CutT g cur cut h K) : CallA Tryz.prog fn_pref10_Guard_Cut [pointer g, int IntKind.i64 cur, int IntKind.i64 cut] h K :=
 CallA.of_ev (cs := []) Tryz.func14 (by kernel_rfl) (fun _ _ => Tryz.call14 _ _) mixed (by kernel_rfl) (by kernel_rfl) k
def F_pref10_Guard_turnT (g : Option Addr) (t : Option Addr) (tn : Nat) (tc : Nat) (e : Int) (h : Heap) (K : Value → Heap → Prop) : Prop :=
 Br (e == 0) (withAddr g fun (b o : Nat) => Heap.canSt h b o 1 ∧ CallA Tryz.prog fn_pref10_Guard_Judge [pointer g] (Heap.setN h b o [slice t tn tc]) fun (v : Value) (h : Heap) => v = tuple #[] ∧ Ret h K (int IntKind.i64 e))
 (Ret h K (int IntKind.i64 e))
theorem F_pref10_Guard_turn (g : Option Addr) (t : Option Addr) (tn : Nat) (tc : Nat) (e : Int) (h : Heap) (K : Value → Heap → Prop) (k : F_pref10_Guard_turnT g t tn tc e h K) : CallA Tryz.prog fn_pref10_Guard_turn [pointer g, slice t tn tc, int IntKind.i64 e] h K :=
 CallA.of_ev (cs := []) Tryz.func49 (by kernel_rfl) (fun _ _ => Tryz.call49 _ _) mixed (by kernel_rfl) (by kernel_rfl) k
end Go.Proofs.YtghdadniddoboaaGreat

namespace Go.Proofs.YtghdadniddoboaaGreat
open Go Go.Sy Go.Value
set_option linter.unusedVariables false
set_option maxRecDepth 100000
def L_law10_RiskDoes_0 (limits : Option Addr) (limitsn : Nat) (limitsc : Nat) (ops : Option Addr) (opsn : Nat) (opsc : Nat) (member : Int) (more : Option Addr) (moren : Nat) (morec : Nat) (l : Option Addr) (r : Option Addr) (g : Option Addr) (q : Option Addr) (i : Int) (h : Heap) (K : Value → Heap → Prop) : Prop :=
 LoopAt Tryz.prog Tryz.f3 3 (loopK Tryz.f3 0) (sp 228 [(1, slice limits limitsn limitsc), (2, slice ops opsn opsc), (3, int IntKind.i64 member), (4, slice more moren morec), (11, pointer l), (13, pointer r), (15, pointer g), (17, pointer q), (19, int IntKind.i64 i)]) h K
def L_law10_RiskDoes_1033 (limits : Option Addr) (limitsn : Nat) (limitsc : Nat) (ops : Option Addr) (opsn : Nat) (opsc : Nat) (member : Int) (more : Option Addr) (moren : Nat) (morec : Nat) (l : Option Addr) (r : Option Addr) (g : Option Addr) (q : Option Addr) (i : Int) (a : Int) (b : Int) (h : Heap) (K : Value → Heap → Prop) : Prop :=
 CutAt Tryz.prog Tryz.f3 3 (cutK Tryz.f3 33) (sp 228 [(1, slice limits limitsn limitsc), (2, slice ops opsn opsc), (3, int IntKind.i64 member), (4, slice more moren morec), (11, pointer l), (13, pointer r), (15, pointer g), (17, pointer q), (19, int IntKind.i64 i),
 (21, int IntKind.i64 a), (22, int IntKind.i64 b)]) h K
def L_law10_RiskDoes_1 (limits : Option Addr) (limitsn : Nat) (limitsc : Nat) (ops : Option Addr) (opsn : Nat) (opsc : Nat) (member : Int) (more : Option Addr) (moren : Nat) (morec : Nat) (l : Option Addr) (r : Option Addr) (g : Option Addr) (q : Option Addr) (i : Int) (m : Int) (h : Heap) (K : Value → Heap → Prop) : Prop :=
 LoopAt Tryz.prog Tryz.f3 3 (loopK Tryz.f3 1) (sp 228 [(1, slice limits limitsn limitsc), (2, slice ops opsn opsc), (3, int IntKind.i64 member), (4, slice more moren morec), (11, pointer l), (13, pointer r), (15, pointer g), (17, pointer q), (19, int IntKind.i64 i),
 (23, int IntKind.i64 m)]) h K
def L_law10_RiskDoes_0T (limits : Option Addr) (limitsn : Nat) (limitsc : Nat) (ops : Option Addr) (opsn : Nat) (opsc : Nat) (member : Int) (more : Option Addr) (moren : Nat) (morec : Nat) (l : Option Addr) (r : Option Addr) (g : Option Addr) (q : Option Addr) (i : Int) (h : Heap) (K : Value → Heap → Prop) : Prop :=
 Br (!Option.isNone g)
 (Br (decide (i < (↑opsn : Int)))
 (0 ≤ i ∧
 i < (↑opsn : Int) ∧
 withAddr ops fun (b o : Nat) =>
 ∃ (n : Int),
 Heap.cell h b (o + Int.toNat i * 7) = some (int IntKind.i64 n) ∧
 ∃ (n_1 : Int),
 Heap.cell h b (o + Int.toNat i * 7 + 1) = some (int IntKind.i64 n_1) ∧
 ∃ (n_2 : Int),
 Heap.cell h b (o + Int.toNat i * 7 + 2) = some (int IntKind.i64 n_2) ∧
 ∃ (n_3 : Int),
 Heap.cell h b (o + Int.toNat i * 7 + 3) = some (int IntKind.i64 n_3) ∧
 ∃ (n_4 : Int),
 Heap.cell h b (o + Int.toNat i * 7 + 4) = some (int IntKind.i64 n_4) ∧
 ∃ (n_5 : Int),
 Heap.cell h b (o + Int.toNat i * 7 + 5) = some (int IntKind.i64 n_5) ∧
 ∃ (a : Option Addr),
 ∃ (n_6 : Nat),
 ∃ (m : Nat),
 Heap.cell h b (o + Int.toNat i * 7 + 6) = some (slice a n_6 m) ∧
 newB h [int IntKind.i64 0, int IntKind.i64 0, int IntKind.i64 0, int IntKind.i64 0, int IntKind.i64 0, int IntKind.i64 0, slice none 0 0] 42 fun (r_1 : Nat) (h : Heap) =>
 Heap.canSt h r_1 0 7 ∧
 ∃ (n_7 : Int),
 Heap.cell (Heap.setN h r_1 0 [int IntKind.i64 n, int IntKind.i64 n_1, int IntKind.i64 n_2, int IntKind.i64 n_3, int IntKind.i64 n_4, int IntKind.i64 n_5, slice a n_6 m])
 r_1 0 =
 some (int IntKind.i64 n_7) ∧
 ∃ (n_8 : Int),
 Heap.cell
 (Heap.setN h r_1 0 [int IntKind.i64 n, int IntKind.i64 n_1, int IntKind.i64 n_2, int IntKind.i64 n_3, int IntKind.i64 n_4, int IntKind.i64 n_5, slice a n_6 m])
 r_1 1 =
 some (int IntKind.i64 n_8) ∧
 ∃ (n_9 : Int),
 Heap.cell
 (Heap.setN h r_1 0
 [int IntKind.i64 n, int IntKind.i64 n_1, int IntKind.i64 n_2, int IntKind.i64 n_3, int IntKind.i64 n_4, int IntKind.i64 n_5, slice a n_6 m])
 r_1 2 =
 some (int IntKind.i64 n_9) ∧
 ∃ (n_10 : Int),
 Heap.cell
 (Heap.setN h r_1 0
 [int IntKind.i64 n, int IntKind.i64 n_1, int IntKind.i64 n_2, int IntKind.i64 n_3, int IntKind.i64 n_4, int IntKind.i64 n_5, slice a n_6 m])
 r_1 3 =
 some (int IntKind.i64 n_10) ∧
 ∃ (n_11 : Int),
 Heap.cell
 (Heap.setN h r_1 0
 [int IntKind.i64 n, int IntKind.i64 n_1, int IntKind.i64 n_2, int IntKind.i64 n_3, int IntKind.i64 n_4, int IntKind.i64 n_5, slice a n_6 m])
 r_1 4 =
 some (int IntKind.i64 n_11) ∧
 ∃ (n_12 : Int),
 Heap.cell
 (Heap.setN h r_1 0
 [int IntKind.i64 n, int IntKind.i64 n_1, int IntKind.i64 n_2, int IntKind.i64 n_3, int IntKind.i64 n_4, int IntKind.i64 n_5, slice a n_6 m])
 r_1 5 =
 some (int IntKind.i64 n_12) ∧
 ∃ (a_1 : Option Addr),
 ∃ (n_13 : Nat),
 ∃ (m_1 : Nat),
 Heap.cell
 (Heap.setN h r_1 0
 [int IntKind.i64 n, int IntKind.i64 n_1, int IntKind.i64 n_2, int IntKind.i64 n_3, int IntKind.i64 n_4, int IntKind.i64 n_5,
 slice a n_6 m])
 r_1 6 =
 some (slice a_1 n_13 m_1) ∧
 CallA Tryz.prog 10
 [pointer g,
 agg
 #[int IntKind.i64 n_7, int IntKind.i64 n_8, int IntKind.i64 n_9, int IntKind.i64 n_10, int IntKind.i64 n_11, int IntKind.i64 n_12,
 slice a_1 n_13 m_1]]
 (Heap.setN h r_1 0
 [int IntKind.i64 n, int IntKind.i64 n_1, int IntKind.i64 n_2, int IntKind.i64 n_3, int IntKind.i64 n_4, int IntKind.i64 n_5,
 slice a n_6 m])
 fun (v : Value) (h : Heap) =>
 ∃ (n : Int),
 v = int IntKind.i64 n ∧
 ∃ (n_14 : Int),
 Heap.cell h r_1 0 = some (int IntKind.i64 n_14) ∧
 Br (n_14 == 0)
 (∃ (n_15 : Int),
 Heap.cell h r_1 1 = some (int IntKind.i64 n_15) ∧
 ∃ (n_16 : Int),
 Heap.cell h r_1 2 = some (int IntKind.i64 n_16) ∧
 ∃ (n_17 : Int),
 Heap.cell h r_1 4 = some (int IntKind.i64 n_17) ∧
 CallA Tryz.prog fn_pref10_Guard_In [pointer q, int IntKind.i64 n_15, int IntKind.i64 n_16, int IntKind.i64 n_17] h
 fun (v : Value) (h : Heap) =>
 ∃ (n_18 : Int),
 v = int IntKind.i64 n_18 ∧
 L_law10_RiskDoes_1033 limits limitsn limitsc ops opsn opsc member more moren morec l r g q i n n_18 h K)
 (Br (n_14 == 1)
 (∃ (n_15 : Int),
 Heap.cell h r_1 1 = some (int IntKind.i64 n_15) ∧
 ∃ (n_16 : Int),
 Heap.cell h r_1 2 = some (int IntKind.i64 n_16) ∧
 ∃ (n_17 : Int),
 Heap.cell h r_1 4 = some (int IntKind.i64 n_17) ∧
 CallA Tryz.prog fn_pref10_Guard_Out [pointer q, int IntKind.i64 n_15, int IntKind.i64 n_16, int IntKind.i64 n_17] h
 fun (v : Value) (h : Heap) =>
 ∃ (n_18 : Int),
 v = int IntKind.i64 n_18 ∧
 L_law10_RiskDoes_1033 limits limitsn limitsc ops opsn opsc member more moren morec l r g q i n n_18 h K)
 (Br (n_14 == 2)
 (∃ (n_15 : Int),
 Heap.cell h r_1 2 = some (int IntKind.i64 n_15) ∧
 ∃ (n_16 : Int),
 Heap.cell h r_1 4 = some (int IntKind.i64 n_16) ∧
 CallA Tryz.prog fn_pref10_Guard_Rate [pointer q, int IntKind.i64 n_15, int IntKind.i64 n_16] h fun (v : Value) (h : Heap) =>
 ∃ (n_17 : Int),
 v = int IntKind.i64 n_17 ∧
 L_law10_RiskDoes_1033 limits limitsn limitsc ops opsn opsc member more moren morec l r g q i n n_17 h K)
 (Br (n_14 == 3)
 (∃ (n_15 : Int),
 Heap.cell h r_1 2 = some (int IntKind.i64 n_15) ∧
 ∃ (n_16 : Int),
 Heap.cell h r_1 4 = some (int IntKind.i64 n_16) ∧
 CallA Tryz.prog fn_pref10_Guard_Cut [pointer q, int IntKind.i64 n_15, int IntKind.i64 n_16] h fun (v : Value) (h : Heap) =>
 ∃ (n_17 : Int),
 v = int IntKind.i64 n_17 ∧
 L_law10_RiskDoes_1033 limits limitsn limitsc ops opsn opsc member more moren morec l r g q i n n_17 h K)
 (Br (n_14 == 5)
 (∃ (a : Option Addr),
 ∃ (n_15 : Nat),
 ∃ (m : Nat),
 Heap.cell h r_1 6 = some (slice a n_15 m) ∧
 CallA Tryz.prog fn_pref10_Guard_Take [pointer q, slice a n_15 m] h fun (v : Value) (h : Heap) =>
 ∃ (n_16 : Int),
 v = int IntKind.i64 n_16 ∧
 L_law10_RiskDoes_1033 limits limitsn limitsc ops opsn opsc member more moren morec l r g q i n n_16 h K)
 (Br (n_14 == 6)
 (∃ (n_15 : Int),
 Heap.cell h r_1 1 = some (int IntKind.i64 n_15) ∧
 ∃ (n_16 : Int),
 Heap.cell h r_1 2 = some (int IntKind.i64 n_16) ∧
 ∃ (n_17 : Int),
 Heap.cell h r_1 3 = some (int IntKind.i64 n_17) ∧
 ∃ (n_18 : Int),
 Heap.cell h r_1 4 = some (int IntKind.i64 n_18) ∧
 ∃ (n_19 : Int),
 Heap.cell h r_1 5 = some (int IntKind.i64 n_19) ∧
 CallA Tryz.prog 16
 [pointer q, int IntKind.i64 n_15, int IntKind.i64 n_16, int IntKind.i64 n_17,
 int IntKind.i64 n_18, int IntKind.i64 n_19]
 h fun (v : Value) (h : Heap) =>
 ∃ (n_20 : Int),
 v = int IntKind.i64 n_20 ∧
 L_law10_RiskDoes_1033 limits limitsn limitsc ops opsn opsc member more moren morec l r g q i n n_20 h K)
 (∃ (a : Option Addr),
 ∃ (n_15 : Nat),
 ∃ (m : Nat),
 Heap.cell h r_1 6 = some (slice a n_15 m) ∧
 CallA Tryz.prog fn_pref10_Guard_Book [pointer q, slice a n_15 m] h fun (v : Value) (h : Heap) =>
 ∃ (n_16 : Int),
 v = int IntKind.i64 n_16 ∧
 L_law10_RiskDoes_1033 limits limitsn limitsc ops opsn opsc member more moren morec l r g q i n n_16 h K)))))))
 (Ret h K (Value.bool true)))
 (Ret h K (Value.bool true))
theorem L_law10_RiskDoes_0r (limits : Option Addr) (limitsn : Nat) (limitsc : Nat) (ops : Option Addr) (opsn : Nat) (opsc : Nat) (member : Int) (more : Option Addr) (moren : Nat) (morec : Nat) (l : Option Addr) (r : Option Addr) (g : Option Addr) (q : Option Addr) (i : Int) (h : Heap) (K : Value → Heap → Prop) (k : L_law10_RiskDoes_0T limits limitsn limitsc ops opsn opsc member more moren morec l r g q i h K) : L_law10_RiskDoes_0 limits limitsn limitsc ops opsn opsc member more moren morec l r g q i h K :=
 LoopAt.of_ev (cs := [33]) Tryz.func3 mixed (fun junk => by kernel_rfl) k
def L_law10_RiskDoes_1033T (limits : Option Addr) (limitsn : Nat) (limitsc : Nat) (ops : Option Addr) (opsn : Nat) (opsc : Nat) (member : Int) (more : Option Addr) (moren : Nat) (morec : Nat) (l : Option Addr) (r : Option Addr) (g : Option Addr) (q : Option Addr) (i : Int) (a : Int) (b : Int) (h : Heap) (K : Value → Heap → Prop) : Prop :=
 Br (a != b) (Ret h K (Value.bool false))
 (CallA Tryz.prog fn_pledger_Ledger_Text [pointer l] h fun (v : Value) (h : Heap) =>
 ∃ (s : ByteArray),
 v = string s ∧
 CallA Tryz.prog fn_pref08_Ledger_Text [pointer r] h fun (v : Value) (h : Heap) =>
 ∃ (s_1 : ByteArray),
 v = string s_1 ∧
 Br (!ByteArray.toList s == ByteArray.toList s_1) (Ret h K (Value.bool false))
 (CallA Tryz.prog fn_prisk_Guard_Fails [pointer g, int IntKind.i64 member, slice more moren morec] h fun (v : Value) (h : Heap) =>
 ∃ (n : Int),
 v = int IntKind.i64 n ∧
 CallA Tryz.prog fn_pref10_Guard_Fails [pointer q, int IntKind.i64 member, slice more moren morec] h fun (v : Value) (h : Heap) =>
 ∃ (n_1 : Int),
 v = int IntKind.i64 n_1 ∧
 Br (n != n_1) (Ret h K (Value.bool false))
 (withAddr q fun (b o : Nat) =>
 ∃ (a : Option Addr),
 ∃ (n : Nat),
 ∃ (m : Nat),
 Heap.cell h b o = some (slice a n m) ∧
 CallA Tryz.prog fn_prisk_Guard_Worths [pointer g] h fun (v : Value) (h_1 : Heap) =>
 ∃ (a_1 : Option Addr),
 v = pointer a_1 ∧
 (Heap.le h h_1 ∨ Keeps [b] h h_1) ∧
 CallA Tryz.prog fn_pworth_Worths_Table [pointer a_1] h_1 fun (v : Value) (h : Heap) =>
 ∃ (a_2 : Option Addr),
 ∃ (n_2 : Nat),
 ∃ (m_1 : Nat),
 v = slice a_2 n_2 m_1 ∧
 (Heap.le h_1 h ∨ Keeps [b] h_1 h) ∧
 CallA Tryz.prog fn_ref03_Same [slice a_2 n_2 m_1, slice a n m] h fun (v : Value) (h : Heap) =>
 ∃ (b : Bool), v = Value.bool b ∧ Br (!b) (Ret h K (Value.bool false)) (L_law10_RiskDoes_1 limits limitsn limitsc ops opsn opsc member more moren morec l r g q i 0 h K))))
theorem L_law10_RiskDoes_1033r (limits : Option Addr) (limitsn : Nat) (limitsc : Nat) (ops : Option Addr) (opsn : Nat) (opsc : Nat) (member : Int) (more : Option Addr) (moren : Nat) (morec : Nat) (l : Option Addr) (r : Option Addr) (g : Option Addr) (q : Option Addr) (i : Int) (a : Int) (b : Int) (h : Heap) (K : Value → Heap → Prop) (k : L_law10_RiskDoes_1033T limits limitsn limitsc ops opsn opsc member more moren morec l r g q i a b h K) : L_law10_RiskDoes_1033 limits limitsn limitsc ops opsn opsc member more moren morec l r g q i a b h K :=
 CutAt.of_ev (cs := [33]) Tryz.func3 mixed (fun junk => by kernel_rfl) k
def L_law10_RiskDoes_1T (limits : Option Addr) (limitsn : Nat) (limitsc : Nat) (ops : Option Addr) (opsn : Nat) (opsc : Nat) (member : Int) (more : Option Addr) (moren : Nat) (morec : Nat) (l : Option Addr) (r : Option Addr) (g : Option Addr) (q : Option Addr) (i : Int) (m : Int) (h : Heap) (K : Value → Heap → Prop) : Prop :=
 Br (decide (m < (↑limitsn : Int)))
 (withAddr q fun (b o : Nat) =>
 ∃ (a : Option Addr),
 ∃ (n : Nat),
 ∃ (m_1 : Nat),
 Heap.cell h b (o + 3) = some (slice a n m_1) ∧
 0 ≤ m ∧
 m < (↑n : Int) ∧
 withAddr a fun (b_1 o : Nat) =>
 ∃ (b_2 : Bool),
 Heap.cell h b_1 (o + Int.toNat m) = some (Value.bool b_2) ∧
 CallA Tryz.prog fn_prisk_Guard_Flagged [pointer g, int IntKind.i64 m] h fun (v : Value) (h_1 : Heap) =>
 ∃ (b_3 : Bool),
 v = Value.bool b_3 ∧
 (Heap.le h h_1 ∨ Keeps [b, b_1] h h_1) ∧
 Br (!b_3 == b_2) (Ret h_1 K (Value.bool false))
 (CallA Tryz.prog fn_prisk_Guard_Fails [pointer g, int IntKind.i64 m, slice none 0 0] h_1 fun (v : Value) (h : Heap) =>
 ∃ (n : Int),
 v = int IntKind.i64 n ∧
 CallA Tryz.prog fn_pref10_Guard_Fails [pointer q, int IntKind.i64 m, slice none 0 0] h fun (v : Value) (h : Heap) =>
 ∃ (n_1 : Int),
 v = int IntKind.i64 n_1 ∧
 Br (n != n_1) (Ret h K (Value.bool false)) (L_law10_RiskDoes_1 limits limitsn limitsc ops opsn opsc member more moren morec l r g q i (IntKind.wrap IntKind.i64 (m + 1)) h K)))
 (L_law10_RiskDoes_0 limits limitsn limitsc ops opsn opsc member more moren morec l r g q (IntKind.wrap IntKind.i64 (i + 1)) h K)
theorem L_law10_RiskDoes_1r (limits : Option Addr) (limitsn : Nat) (limitsc : Nat) (ops : Option Addr) (opsn : Nat) (opsc : Nat) (member : Int) (more : Option Addr) (moren : Nat) (morec : Nat) (l : Option Addr) (r : Option Addr) (g : Option Addr) (q : Option Addr) (i : Int) (m : Int) (h : Heap) (K : Value → Heap → Prop) (k : L_law10_RiskDoes_1T limits limitsn limitsc ops opsn opsc member more moren morec l r g q i m h K) : L_law10_RiskDoes_1 limits limitsn limitsc ops opsn opsc member more moren morec l r g q i m h K :=
 LoopAt.of_ev (cs := [33]) Tryz.func3 mixed (fun junk => by kernel_rfl) k
def F_law10_RiskDoesT (t : Option Addr) (tn : Nat) (tc : Nat) (limits : Option Addr) (limitsn : Nat) (limitsc : Nat) (ops : Option Addr) (opsn : Nat) (opsc : Nat) (member : Int) (more : Option Addr) (moren : Nat) (morec : Nat) (h : Heap) (K : Value → Heap → Prop) : Prop :=
 CallA Tryz.prog fn_law10_awake [] h fun (v : Value) (h : Heap) =>
 ∃ (b : Bool),
 v = Value.bool b ∧
 Br (!b) (Ret h K (Value.bool false))
 (CallA Tryz.prog fn_law10_large [slice t tn tc, slice limits limitsn limitsc, slice ops opsn opsc] h fun (v : Value) (h : Heap) =>
 ∃ (b : Bool),
 v = Value.bool b ∧
 Br b (Ret h K (Value.bool true))
 (Br (decide ((↑moren : Int) > 20)) (Ret h K (Value.bool true))
 (CallA Tryz.prog fn_ledger_New [int IntKind.i64 (if 1 > (↑limitsn : Int) then 1 else (↑limitsn : Int)), int IntKind.i64 (if 1 > (↑tn : Int) then 1 else (↑tn : Int))] h fun (v : Value) (h : Heap) =>
 ∃ (a : Option Addr),
 ∃ (n : Int),
 v = tuple #[pointer a, int IntKind.i64 n] ∧
 CallA Tryz.prog fn_ref08_New [int IntKind.i64 (if 1 > (↑limitsn : Int) then 1 else (↑limitsn : Int)), int IntKind.i64 (if 1 > (↑tn : Int) then 1 else (↑tn : Int))] h fun (v : Value) (h : Heap) =>
 ∃ (a_1 : Option Addr),
 ∃ (n : Int),
 v = tuple #[pointer a_1, int IntKind.i64 n] ∧
 Br (Option.isNone a) (Br (Option.isNone a) (Ret h K (Value.bool (Option.isNone a_1))) (Ret h K (Value.bool false)))
 (Br (Option.isNone a_1) (Br (Option.isNone a) (Ret h K (Value.bool (Option.isNone a_1))) (Ret h K (Value.bool false)))
 (CallA Tryz.prog fn_risk_New [slice t tn tc, pointer a, slice limits limitsn limitsc] h fun (v : Value) (h : Heap) =>
 ∃ (a_2 : Option Addr),
 ∃ (n : Int),
 v = tuple #[pointer a_2, int IntKind.i64 n] ∧
 CallA Tryz.prog fn_ref10_New [slice t tn tc, pointer a_1, slice limits limitsn limitsc] h fun (v : Value) (h : Heap) =>
 ∃ (a_3 : Option Addr),
 ∃ (n_1 : Int),
 v = tuple #[pointer a_3, int IntKind.i64 n_1] ∧
 Br (n != n_1) (Ret h K (Value.bool false))
 (Br (!Option.isNone a_2 == Option.isNone a_3) (Ret h K (Value.bool false))
 (L_law10_RiskDoes_0 limits limitsn limitsc ops opsn opsc member more moren morec a a_1 a_2 a_3 0 h K)))))))
theorem F_law10_RiskDoes (t : Option Addr) (tn : Nat) (tc : Nat) (limits : Option Addr) (limitsn : Nat) (limitsc : Nat) (ops : Option Addr) (opsn : Nat) (opsc : Nat) (member : Int) (more : Option Addr) (moren : Nat) (morec : Nat) (h : Heap) (K : Value → Heap → Prop) (k : F_law10_RiskDoesT t tn tc limits limitsn limitsc ops opsn opsc member more moren morec h K) : CallA Tryz.prog fn_law10_RiskDoes [slice t tn tc, slice limits limitsn limitsc, slice ops opsn opsc, int IntKind.i64 member, slice more moren morec] h K :=
 CallA.of_ev (cs := [33]) Tryz.func3 (by kernel_rfl) (fun _ _ => Tryz.call3 _ _) mixed (by kernel_rfl) (by kernel_rfl) k
def F_prisk_Guard_WorthsT (g : Option Addr) (h : Heap) (K : Value → Heap → Prop) : Prop :=
 withAddr g fun (b o : Nat) => ∃ (a : Option Addr), Heap.cell h b (o + 1) = some (pointer a) ∧ Ret h K (pointer a)
theorem F_prisk_Guard_Worths (g : Option Addr) (h : Heap) (K : Value → Heap → Prop) (k : F_prisk_Guard_WorthsT g h K) : CallA Tryz.prog fn_prisk_Guard_Worths [pointer g] h K :=
 CallA.of_ev (cs := []) Tryz.func23 (by kernel_rfl) (fun _ _ => Tryz.call23 _ _) mixed (by kernel_rfl) (by kernel_rfl) k
end Go.Proofs.YtghdadniddoboaaGreat
