import Derived.Test.YtkcogdmddhkldaaEqN
namespace Go.Proofs.Ytkcogdmddhkldaa
open Go Go.Sy Go.Value
set_option linter.unusedVariables false
set_option maxRecDepth 100000
def F_law15_awakeT (h : Heap) (K : Value → Heap → Prop) : Prop :=
 newB h [int IntKind.i64 5] 2 fun (r : Nat) (h : Heap) =>
 newB h [int IntKind.i64 0] 2 fun (r_1 : Nat) (h : Heap) =>
 newB h [int IntKind.i64 9] 2 fun (r_2 : Nat) (h : Heap) =>
 newB h [slice (some { block := r, off := 0 }) 1 1, slice (some { block := r_1, off := 0 }) 1 1, slice (some { block := r_2, off := 0 }) 1 1] 36 fun (r : Nat) (h : Heap) =>
 CallA Try.prog fn_lender_New [slice (some { block := r, off := 0 }) 3 3, int IntKind.i64 1] h fun (v : Value) (h : Heap) =>
 ∃ (a : Option Addr),
 ∃ (n : Int),
 v = tuple #[pointer a, int IntKind.i64 n] ∧
 newB h [int IntKind.i64 (-1)] 2 fun (r : Nat) (h : Heap) =>
 newB h [slice (some { block := r, off := 0 }) 1 1] 36 fun (r : Nat) (h : Heap) =>
 CallA Try.prog fn_lender_New [slice (some { block := r, off := 0 }) 1 1, int IntKind.i64 1] h fun (v : Value) (h : Heap) =>
 ∃ (a_1 : Option Addr),
 ∃ (n_1 : Int),
 v = tuple #[pointer a_1, int IntKind.i64 n_1] ∧
 Br (Option.isNone a) (Ret h K (Value.bool false))
 (CallA Try.prog fn_plender_Lenders_Draw [pointer a, int IntKind.i64 0, int IntKind.i64 12] h fun (v : Value) (h : Heap) =>
 ∃ (a_2 : Option Addr),
 ∃ (n_2 : Nat),
 ∃ (m : Nat),
 ∃ (n_3 : Int),
 ∃ (n_4 : Int),
 v = tuple #[slice a_2 n_2 m, int IntKind.i64 n_3, int IntKind.i64 n_4] ∧
 newB h [int IntKind.i64 1, int IntKind.i64 3] 78 fun (r : Nat) (h : Heap) =>
 CallA Try.prog fn_plender_Lenders_Give [pointer a, int IntKind.i64 0, slice (some { block := r, off := 0 }) 1 1] h fun (v : Value) (h : Heap) =>
 ∃ (n_5 : Int),
 v = int IntKind.i64 n_5 ∧
 CallA Try.prog fn_plender_Lenders_Fail [pointer a, int IntKind.i64 2] h fun (v : Value) (h : Heap) =>
 ∃ (n_6 : Int),
 v = int IntKind.i64 n_6 ∧
 CallA Try.prog fn_plender_Lenders_Fail [pointer a, int IntKind.i64 2] h fun (v : Value) (h : Heap) =>
 ∃ (n_7 : Int),
 v = int IntKind.i64 n_7 ∧
 CallA Try.prog fn_plender_Lenders_Text [pointer a] h fun (v : Value) (h : Heap) =>
 ∃ (s : ByteArray),
 v = string s ∧
 CallA Try.prog fn_lender_Read [string s] h fun (v : Value) (h : Heap) =>
 ∃ (a_3 : Option Addr),
 ∃ (n_8 : Int),
 v = tuple #[pointer a_3, int IntKind.i64 n_8] ∧
 CallA Try.prog fn_lender_Read [string { data := #[1] }] h fun (v : Value) (h : Heap) =>
 ∃ (a_4 : Option Addr),
 ∃ (n_9 : Int),
 v = tuple #[pointer a_4, int IntKind.i64 n_9] ∧
 Br (n == 0)
 (Br (n_1 == 1)
 (CallA Try.prog fn_law15_own [slice a_2 n_2 m] h fun (v : Value) (h : Heap) =>
 ∃ (a_5 : Option Addr),
 ∃ (n : Nat),
 ∃ (m : Nat),
 v = slice a_5 n m ∧
 newB h [int IntKind.i64 0, int IntKind.i64 5, int IntKind.i64 2, int IntKind.i64 7] 130 fun (r : Nat) (h : Heap) =>
 CallA Try.prog fn_ref15_Same [slice a_5 n m, slice (some { block := r, off := 0 }) 2 2] h fun (v : Value) (h : Heap) =>
 ∃ (b : Bool),
 v = Value.bool b ∧
 Br b
 (Br (n_3 == 0)
 (Br (n_4 == 0)
 (Br (n_5 == 0)
 (Br (n_6 == 0)
 (Br (n_7 == 11)
 (CallA Try.prog fn_plender_Lenders_Left [pointer a, int IntKind.i64 1, int IntKind.i64 0] h
 fun (v : Value) (h : Heap) =>
 ∃ (n : Int),
 v = int IntKind.i64 n ∧
 Br (n == 3)
 (CallA Try.prog fn_plender_Lenders_Left [pointer a, int IntKind.i64 2, int IntKind.i64 0] h
 fun (v : Value) (h : Heap) =>
 ∃ (n : Int),
 v = int IntKind.i64 n ∧
 Br (n == 0)
 (CallA Try.prog fn_plender_Lenders_Failed [pointer a, int IntKind.i64 2] h
 fun (v : Value) (h : Heap) =>
 ∃ (b : Bool),
 v = Value.bool b ∧
 Br b
 (CallA Try.prog fn_plender_Lenders_Failed [pointer a, int IntKind.i64 3] h
 fun (v : Value) (h : Heap) =>
 ∃ (b : Bool),
 v = Value.bool b ∧
 Br (!b)
 (Br (!Option.isNone a_3)
 (Br (n_8 == 0)
 (CallA Try.prog fn_plender_Lenders_Failed [pointer a_3, int IntKind.i64 2] h
 fun (v : Value) (h : Heap) =>
 ∃ (b : Bool),
 v = Value.bool b ∧
 Br b (Ret h K (Value.bool (n_9 == 2)))
 (Ret h K (Value.bool false)))
 (Ret h K (Value.bool false)))
 (Ret h K (Value.bool false)))
 (Ret h K (Value.bool false)))
 (Ret h K (Value.bool false)))
 (Ret h K (Value.bool false)))
 (Ret h K (Value.bool false)))
 (Ret h K (Value.bool false)))
 (Ret h K (Value.bool false)))
 (Ret h K (Value.bool false)))
 (Ret h K (Value.bool false)))
 (Ret h K (Value.bool false)))
 (Ret h K (Value.bool false)))
 (Ret h K (Value.bool false)))
 (Ret h K (Value.bool false)))
theorem F_law15_awake (h : Heap) (K : Value → Heap → Prop) (k : F_law15_awakeT h K) : CallA Try.prog fn_law15_awake [] h K :=
 CallA.of_ev (cs := []) Try.func25 (by kernel_rfl) (fun _ _ => Try.call25 _ _) mixed (by kernel_rfl) (by kernel_rfl) k
def L_law15_own_0 (out : Option Addr) (outn : Nat) (outc : Nat) (t6 : Option Addr) (t6n : Nat) (t6c : Nat) (t7 : Int) (t8 : Int) (h : Heap) (K : Value → Heap → Prop) : Prop :=
 LoopAt Try.prog Try.f32 32 (loopK Try.f32 0) (sp 18 [(3, slice out outn outc), (6, slice t6 t6n t6c), (7, int IntKind.i64 t7), (8, int IntKind.i64 t8)]) h K
def L_law15_own_0T (out : Option Addr) (outn : Nat) (outc : Nat) (t6 : Option Addr) (t6n : Nat) (t6c : Nat) (t7 : Int) (t8 : Int) (h : Heap) (K : Value → Heap → Prop) : Prop :=
 Br (decide (t8 < t7))
 (0 ≤ t8 ∧
 t8 < (↑t6n : Int) ∧
 withAddr t6 fun (b o : Nat) =>
 ∃ (n : Int),
 Heap.cell h b (o + Int.toNat t8 * 2) = some (int IntKind.i64 n) ∧
 ∃ (n_1 : Int),
 Heap.cell h b (o + Int.toNat t8 * 2 + 1) = some (int IntKind.i64 n_1) ∧
 newB h [int IntKind.i64 0, int IntKind.i64 0] 78 fun (r : Nat) (h : Heap) =>
 Heap.canSt h r 0 2 ∧
 ∃ (n_2 : Int),
 Heap.cell (Heap.setN h r 0 [int IntKind.i64 n, int IntKind.i64 n_1]) r 0 = some (int IntKind.i64 n_2) ∧
 ∃ (n_3 : Int),
 Heap.cell (Heap.setN h r 0 [int IntKind.i64 n, int IntKind.i64 n_1]) r 1 = some (int IntKind.i64 n_3) ∧
 newB (Heap.setN h r 0 [int IntKind.i64 n, int IntKind.i64 n_1]) [int IntKind.i64 n_2, int IntKind.i64 n_3] 130 fun (r : Nat) (h : Heap) =>
 AppA [int IntKind.i64 0, int IntKind.i64 0] 130 h out outn outc 1 (some { block := r, off := 0 }) fun (ap : Option Addr) (cp : Nat) (h : Heap) =>
 L_law15_own_0 ap (outn + 1) cp t6 t6n t6c t7 (IntKind.wrap IntKind.i64 (t8 + 1)) h K)
 (Ret h K (slice out outn outc))
theorem L_law15_own_0r (out : Option Addr) (outn : Nat) (outc : Nat) (t6 : Option Addr) (t6n : Nat) (t6c : Nat) (t7 : Int) (t8 : Int) (h : Heap) (K : Value → Heap → Prop) (k : L_law15_own_0T out outn outc t6 t6n t6c t7 t8 h K) : L_law15_own_0 out outn outc t6 t6n t6c t7 t8 h K :=
 LoopAt.of_ev (cs := []) Try.func32 mixed (fun junk => by kernel_rfl) k
def F_law15_ownT (l : Option Addr) (ln : Nat) (lc : Nat) (h : Heap) (K : Value → Heap → Prop) : Prop :=
 L_law15_own_0 none 0 0 l ln lc (↑ln : Int) 0 h K
theorem F_law15_own (l : Option Addr) (ln : Nat) (lc : Nat) (h : Heap) (K : Value → Heap → Prop) (k : F_law15_ownT l ln lc h K) : CallA Try.prog fn_law15_own [slice l ln lc] h K :=
 CallA.of_ev (cs := []) Try.func32 (by kernel_rfl) (fun _ _ => Try.call32 _ _) mixed (by kernel_rfl) (by kernel_rfl) k
def L_law15_large_0 (lines : Option Addr) (linesn : Nat) (linesc : Nat) (ops : Option Addr) (opsn : Nat) (opsc : Nat) (t8 : Int) (t9 : Int) (h : Heap) (K : Value → Heap → Prop) : Prop :=
 LoopAt Try.prog Try.f26 26 (loopK Try.f26 0) (sp 40 [(0, slice lines linesn linesc), (1, slice ops opsn opsc), (8, int IntKind.i64 t8), (9, int IntKind.i64 t9)]) h K
def L_law15_large_1 (lines : Option Addr) (linesn : Nat) (linesc : Nat) (ops : Option Addr) (opsn : Nat) (opsc : Nat) (t20 : Int) (t21 : Int) (h : Heap) (K : Value → Heap → Prop) : Prop :=
 LoopAt Try.prog Try.f26 26 (loopK Try.f26 1) (sp 40 [(0, slice lines linesn linesc), (1, slice ops opsn opsc), (20, int IntKind.i64 t20), (21, int IntKind.i64 t21)]) h K
def L_law15_large_0T (lines : Option Addr) (linesn : Nat) (linesc : Nat) (ops : Option Addr) (opsn : Nat) (opsc : Nat) (t8 : Int) (t9 : Int) (h : Heap) (K : Value → Heap → Prop) : Prop :=
 Br (decide (t9 < t8))
 (0 ≤ t9 ∧
 t9 < (↑linesn : Int) ∧
 withAddr lines fun (b o : Nat) =>
 ∃ (a : Option Addr),
 ∃ (n : Nat),
 ∃ (m : Nat),
 Heap.cell h b (o + Int.toNat t9) = some (slice a n m) ∧ Br (decide ((↑n : Int) > 20)) (Ret h K (Value.bool true)) (L_law15_large_0 lines linesn linesc ops opsn opsc t8 (IntKind.wrap IntKind.i64 (t9 + 1)) h K))
 (L_law15_large_1 lines linesn linesc ops opsn opsc (↑opsn : Int) 0 h K)
theorem L_law15_large_0r (lines : Option Addr) (linesn : Nat) (linesc : Nat) (ops : Option Addr) (opsn : Nat) (opsc : Nat) (t8 : Int) (t9 : Int) (h : Heap) (K : Value → Heap → Prop) (k : L_law15_large_0T lines linesn linesc ops opsn opsc t8 t9 h K) : L_law15_large_0 lines linesn linesc ops opsn opsc t8 t9 h K :=
 LoopAt.of_ev (cs := []) Try.func26 mixed (fun junk => by kernel_rfl) k
def L_law15_large_1T (lines : Option Addr) (linesn : Nat) (linesc : Nat) (ops : Option Addr) (opsn : Nat) (opsc : Nat) (t20 : Int) (t21 : Int) (h : Heap) (K : Value → Heap → Prop) : Prop :=
 Br (decide (t21 < t20))
 (0 ≤ t21 ∧
 t21 < (↑opsn : Int) ∧
 withAddr ops fun (b o : Nat) =>
 ∃ (a : Option Addr),
 ∃ (n : Nat),
 ∃ (m : Nat),
 Heap.cell h b (o + Int.toNat t21 * 5 + 4) = some (slice a n m) ∧
 Br (decide ((↑n : Int) > 20)) (Ret h K (Value.bool true)) (L_law15_large_1 lines linesn linesc ops opsn opsc t20 (IntKind.wrap IntKind.i64 (t21 + 1)) h K))
 (Br (decide ((↑linesn : Int) > 20)) (Ret h K (Value.bool true)) (Ret h K (Value.bool (decide ((↑opsn : Int) > 40)))))
theorem L_law15_large_1r (lines : Option Addr) (linesn : Nat) (linesc : Nat) (ops : Option Addr) (opsn : Nat) (opsc : Nat) (t20 : Int) (t21 : Int) (h : Heap) (K : Value → Heap → Prop) (k : L_law15_large_1T lines linesn linesc ops opsn opsc t20 t21 h K) : L_law15_large_1 lines linesn linesc ops opsn opsc t20 t21 h K :=
 LoopAt.of_ev (cs := []) Try.func26 mixed (fun junk => by kernel_rfl) k
def F_law15_largeT (lines : Option Addr) (linesn : Nat) (linesc : Nat) (ops : Option Addr) (opsn : Nat) (opsc : Nat) (h : Heap) (K : Value → Heap → Prop) : Prop :=
 L_law15_large_0 lines linesn linesc ops opsn opsc (↑linesn : Int) 0 h K
theorem F_law15_large (lines : Option Addr) (linesn : Nat) (linesc : Nat) (ops : Option Addr) (opsn : Nat) (opsc : Nat) (h : Heap) (K : Value → Heap → Prop) (k : F_law15_largeT lines linesn linesc ops opsn opsc h K) : CallA Try.prog fn_law15_large [slice lines linesn linesc, slice ops opsn opsc] h K :=
 CallA.of_ev (cs := []) Try.func26 (by kernel_rfl) (fun _ _ => Try.call26 _ _) mixed (by kernel_rfl) (by kernel_rfl) k
def L_law15_LenderWhole_0 (lines : Option Addr) (linesn : Nat) (linesc : Nat) (cur : Int) (need : Int) (l : Option Addr) (t39 : Option Addr) (t39n : Nat) (t39c : Nat) (t40 : Int) (t41 : Int) (h : Heap) (K : Value → Heap → Prop) : Prop :=
 LoopAt Try.prog Try.f9 9 (loopK Try.f9 0) (sp 162 [(0, slice lines linesn linesc), (3, int IntKind.i64 cur), (4, int IntKind.i64 need), (11, pointer l), (39, slice t39 t39n t39c), (40, int IntKind.i64 t40), (41, int IntKind.i64 t41)]) h K
def L_law15_LenderWhole_1 (lines : Option Addr) (linesn : Nat) (linesc : Nat) (cur : Int) (need : Int) (l : Option Addr) (was : ByteArray) (parts : Option Addr) (partsn : Nat) (partsc : Nat) (still : Int) (all : Option Addr) (alln : Nat) (allc : Nat) (last : Int) (t90 : Option Addr) (t90n : Nat) (t90c : Nat) (t91 : Int) (t92 : Int) (h : Heap) (K : Value → Heap → Prop) : Prop :=
 LoopAt Try.prog Try.f9 9 (loopK Try.f9 1) (sp 162 [(0, slice lines linesn linesc), (3, int IntKind.i64 cur), (4, int IntKind.i64 need), (11, pointer l), (15, string was), (16, slice parts partsn partsc), (17, int IntKind.i64 still), (19, slice all alln allc),
 (20, int IntKind.i64 last), (90, slice t90 t90n t90c), (91, int IntKind.i64 t91), (92, int IntKind.i64 t92)]) h K
def L_law15_LenderWhole_2 (cur : Int) (l : Option Addr) (was : ByteArray) (parts : Option Addr) (partsn : Nat) (partsc : Nat) (still : Int) (t137 : Int) (t138 : Int) (h : Heap) (K : Value → Heap → Prop) : Prop :=
 LoopAt Try.prog Try.f9 9 (loopK Try.f9 2) (sp 162 [(3, int IntKind.i64 cur), (11, pointer l), (15, string was), (16, slice parts partsn partsc), (17, int IntKind.i64 still), (137, int IntKind.i64 t137), (138, int IntKind.i64 t138)]) h K
def L_law15_LenderWhole_0T (lines : Option Addr) (linesn : Nat) (linesc : Nat) (cur : Int) (need : Int) (l : Option Addr) (t39 : Option Addr) (t39n : Nat) (t39c : Nat) (t40 : Int) (t41 : Int) (h : Heap) (K : Value → Heap → Prop) : Prop :=
 Br (decide (t41 < t40))
 (0 ≤ t41 ∧
 t41 < (↑t39n : Int) ∧
 withAddr t39 fun (b o : Nat) =>
 ∃ (n : Int),
 Heap.cell h b (o + Int.toNat t41 * 5) = some (int IntKind.i64 n) ∧
 ∃ (n_1 : Int),
 Heap.cell h b (o + Int.toNat t41 * 5 + 1) = some (int IntKind.i64 n_1) ∧
 ∃ (n_2 : Int),
 Heap.cell h b (o + Int.toNat t41 * 5 + 2) = some (int IntKind.i64 n_2) ∧
 ∃ (n_3 : Int),
 Heap.cell h b (o + Int.toNat t41 * 5 + 3) = some (int IntKind.i64 n_3) ∧
 ∃ (a : Option Addr),
 ∃ (n_4 : Nat),
 ∃ (m : Nat),
 Heap.cell h b (o + Int.toNat t41 * 5 + 4) = some (slice a n_4 m) ∧
 newB h [int IntKind.i64 0, int IntKind.i64 0, int IntKind.i64 0, int IntKind.i64 0, slice none 0 0] 56 fun (r : Nat) (h : Heap) =>
 Heap.canSt h r 0 5 ∧
 ∃ (n_5 : Int),
 Heap.cell (Heap.setN h r 0 [int IntKind.i64 n, int IntKind.i64 n_1, int IntKind.i64 n_2, int IntKind.i64 n_3, slice a n_4 m]) r 0 = some (int IntKind.i64 n_5) ∧
 Br (n_5 == 0)
 (∃ (n_6 : Int),
 Heap.cell (Heap.setN h r 0 [int IntKind.i64 n, int IntKind.i64 n_1, int IntKind.i64 n_2, int IntKind.i64 n_3, slice a n_4 m]) r 1 = some (int IntKind.i64 n_6) ∧
 ∃ (n_7 : Int),
 Heap.cell (Heap.setN h r 0 [int IntKind.i64 n, int IntKind.i64 n_1, int IntKind.i64 n_2, int IntKind.i64 n_3, slice a n_4 m]) r 3 = some (int IntKind.i64 n_7) ∧
 CallA Try.prog fn_plender_Lenders_Draw [pointer l, int IntKind.i64 n_6, int IntKind.i64 n_7]
 (Heap.setN h r 0 [int IntKind.i64 n, int IntKind.i64 n_1, int IntKind.i64 n_2, int IntKind.i64 n_3, slice a n_4 m]) fun (v : Value) (h : Heap) =>
 ∃ (a : Option Addr),
 ∃ (n : Nat),
 ∃ (m : Nat),
 ∃ (n_8 : Int),
 ∃ (n_9 : Int),
 v = tuple #[slice a n m, int IntKind.i64 n_8, int IntKind.i64 n_9] ∧
 L_law15_LenderWhole_0 lines linesn linesc cur need l t39 t39n t39c t40 (IntKind.wrap IntKind.i64 (t41 + 1)) h K)
 (Br (n_5 == 1)
 (∃ (n_6 : Int),
 Heap.cell (Heap.setN h r 0 [int IntKind.i64 n, int IntKind.i64 n_1, int IntKind.i64 n_2, int IntKind.i64 n_3, slice a n_4 m]) r 1 = some (int IntKind.i64 n_6) ∧
 ∃ (a_1 : Option Addr),
 ∃ (n_7 : Nat),
 ∃ (m_1 : Nat),
 Heap.cell (Heap.setN h r 0 [int IntKind.i64 n, int IntKind.i64 n_1, int IntKind.i64 n_2, int IntKind.i64 n_3, slice a n_4 m]) r 4 = some (slice a_1 n_7 m_1) ∧
 CallA Try.prog fn_plender_Lenders_Give [pointer l, int IntKind.i64 n_6, slice a_1 n_7 m_1]
 (Heap.setN h r 0 [int IntKind.i64 n, int IntKind.i64 n_1, int IntKind.i64 n_2, int IntKind.i64 n_3, slice a n_4 m]) fun (v : Value) (h : Heap) =>
 ∃ (n : Int), v = int IntKind.i64 n ∧ L_law15_LenderWhole_0 lines linesn linesc cur need l t39 t39n t39c t40 (IntKind.wrap IntKind.i64 (t41 + 1)) h K)
 (∃ (n_6 : Int),
 Heap.cell (Heap.setN h r 0 [int IntKind.i64 n, int IntKind.i64 n_1, int IntKind.i64 n_2, int IntKind.i64 n_3, slice a n_4 m]) r 2 = some (int IntKind.i64 n_6) ∧
 CallA Try.prog fn_plender_Lenders_Fail [pointer l, int IntKind.i64 n_6]
 (Heap.setN h r 0 [int IntKind.i64 n, int IntKind.i64 n_1, int IntKind.i64 n_2, int IntKind.i64 n_3, slice a n_4 m]) fun (v : Value) (h : Heap) =>
 ∃ (n : Int), v = int IntKind.i64 n ∧ L_law15_LenderWhole_0 lines linesn linesc cur need l t39 t39n t39c t40 (IntKind.wrap IntKind.i64 (t41 + 1)) h K)))
 (CallA Try.prog fn_plender_Lenders_Text [pointer l] h fun (v : Value) (h : Heap) =>
 ∃ (s : ByteArray),
 v = string s ∧
 CallA Try.prog fn_plender_Lenders_Draw [pointer l, int IntKind.i64 cur, int IntKind.i64 need] h fun (v : Value) (h : Heap) =>
 ∃ (a : Option Addr),
 ∃ (n : Nat),
 ∃ (m : Nat),
 ∃ (n_1 : Int),
 ∃ (n_2 : Int),
 v = tuple #[slice a n m, int IntKind.i64 n_1, int IntKind.i64 n_2] ∧
 Br (n_2 != 0)
 (CallA Try.prog fn_plender_Lenders_Text [pointer l] h fun (v : Value) (h : Heap) =>
 ∃ (s_1 : ByteArray), v = string s_1 ∧ Br (ByteArray.toList s_1 == ByteArray.toList s) (Ret h K (Value.bool ((↑n : Int) == 0))) (Ret h K (Value.bool false)))
 (newB h [] 2 fun (r : Nat) (h : Heap) => L_law15_LenderWhole_1 lines linesn linesc cur need l s a n m n_1 (some { block := r, off := 0 }) 0 0 (-1) a n m (↑n : Int) 0 h K))
theorem L_law15_LenderWhole_0r (lines : Option Addr) (linesn : Nat) (linesc : Nat) (cur : Int) (need : Int) (l : Option Addr) (t39 : Option Addr) (t39n : Nat) (t39c : Nat) (t40 : Int) (t41 : Int) (h : Heap) (K : Value → Heap → Prop) (k : L_law15_LenderWhole_0T lines linesn linesc cur need l t39 t39n t39c t40 t41 h K) : L_law15_LenderWhole_0 lines linesn linesc cur need l t39 t39n t39c t40 t41 h K :=
 LoopAt.of_ev (cs := []) Try.func9 mixed (fun junk => by kernel_rfl) k
def L_law15_LenderWhole_1T (lines : Option Addr) (linesn : Nat) (linesc : Nat) (cur : Int) (need : Int) (l : Option Addr) (was : ByteArray) (parts : Option Addr) (partsn : Nat) (partsc : Nat) (still : Int) (all : Option Addr) (alln : Nat) (allc : Nat) (last : Int) (t90 : Option Addr) (t90n : Nat) (t90c : Nat) (t91 : Int) (t92 : Int) (h : Heap) (K : Value → Heap → Prop) : Prop :=
 Br (decide (t92 < t91))
 (0 ≤ t92 ∧
 t92 < (↑t90n : Int) ∧
 withAddr t90 fun (b o : Nat) =>
 ∃ (n : Int),
 Heap.cell h b (o + Int.toNat t92 * 2) = some (int IntKind.i64 n) ∧
 ∃ (n_1 : Int),
 Heap.cell h b (o + Int.toNat t92 * 2 + 1) = some (int IntKind.i64 n_1) ∧
 newB h [int IntKind.i64 0, int IntKind.i64 0] 78 fun (r : Nat) (h : Heap) =>
 Heap.canSt h r 0 2 ∧
 ∃ (n_2 : Int),
 Heap.cell (Heap.setN h r 0 [int IntKind.i64 n, int IntKind.i64 n_1]) r 0 = some (int IntKind.i64 n_2) ∧
 Br (decide (n_2 ≤ last)) (Ret (Heap.setN h r 0 [int IntKind.i64 n, int IntKind.i64 n_1]) K (Value.bool false))
 (∃ (n_3 : Int),
 Heap.cell (Heap.setN h r 0 [int IntKind.i64 n, int IntKind.i64 n_1]) r 1 = some (int IntKind.i64 n_3) ∧
 Br (decide (n_3 < 1)) (Ret (Heap.setN h r 0 [int IntKind.i64 n, int IntKind.i64 n_1]) K (Value.bool false))
 (∃ (n_4 : Int),
 Heap.cell (Heap.setN h r 0 [int IntKind.i64 n, int IntKind.i64 n_1]) r 0 = some (int IntKind.i64 n_4) ∧
 CallA Try.prog fn_plender_Lenders_Failed [pointer l, int IntKind.i64 n_4] (Heap.setN h r 0 [int IntKind.i64 n, int IntKind.i64 n_1]) fun (v : Value) (h : Heap) =>
 ∃ (b : Bool),
 v = Value.bool b ∧
 Br b (Ret h K (Value.bool false))
 (∃ (n : Int),
 Heap.cell h r 0 = some (int IntKind.i64 n) ∧
 ∃ (n_5 : Int),
 Heap.cell h r 1 = some (int IntKind.i64 n_5) ∧
 newB h [int IntKind.i64 n_5] 2 fun (r : Nat) (h : Heap) =>
 AppA [int IntKind.i64 0] 2 h all alln allc 1 (some { block := r, off := 0 }) fun (ap : Option Addr) (cp : Nat) (h : Heap) =>
 L_law15_LenderWhole_1 lines linesn linesc cur need l was parts partsn partsc still ap (alln + 1) cp n t90 t90n t90c t91 (IntKind.wrap IntKind.i64 (t92 + 1)) h K))))
 (CallA Try.prog fn_money_Chain [int IntKind.i64 still, slice all alln allc] h fun (v : Value) (h : Heap) =>
 ∃ (n : Int),
 ∃ (n_1 : Int),
 v = tuple #[int IntKind.i64 n, int IntKind.i64 n_1] ∧
 Br (n_1 != 0) (Ret h K (Value.bool false)) (Br (n != need) (Ret h K (Value.bool false)) (Br (decide (still < 0)) (Ret h K (Value.bool false)) (L_law15_LenderWhole_2 cur l was parts partsn partsc still (↑linesn : Int) 0 h K))))
theorem L_law15_LenderWhole_1r (lines : Option Addr) (linesn : Nat) (linesc : Nat) (cur : Int) (need : Int) (l : Option Addr) (was : ByteArray) (parts : Option Addr) (partsn : Nat) (partsc : Nat) (still : Int) (all : Option Addr) (alln : Nat) (allc : Nat) (last : Int) (t90 : Option Addr) (t90n : Nat) (t90c : Nat) (t91 : Int) (t92 : Int) (h : Heap) (K : Value → Heap → Prop) (k : L_law15_LenderWhole_1T lines linesn linesc cur need l was parts partsn partsc still all alln allc last t90 t90n t90c t91 t92 h K) : L_law15_LenderWhole_1 lines linesn linesc cur need l was parts partsn partsc still all alln allc last t90 t90n t90c t91 t92 h K :=
 LoopAt.of_ev (cs := []) Try.func9 mixed (fun junk => by kernel_rfl) k
def L_law15_LenderWhole_2T (cur : Int) (l : Option Addr) (was : ByteArray) (parts : Option Addr) (partsn : Nat) (partsc : Nat) (still : Int) (t137 : Int) (t138 : Int) (h : Heap) (K : Value → Heap → Prop) : Prop :=
 Br (decide (t138 < t137))
 (Br (decide (still > 0))
 (CallA Try.prog fn_plender_Lenders_Left [pointer l, int IntKind.i64 t138, int IntKind.i64 cur] h fun (v : Value) (h : Heap) =>
 ∃ (n : Int), v = int IntKind.i64 n ∧ Br (n != 0) (Ret h K (Value.bool false)) (L_law15_LenderWhole_2 cur l was parts partsn partsc still t137 (IntKind.wrap IntKind.i64 (t138 + 1)) h K))
 (L_law15_LenderWhole_2 cur l was parts partsn partsc still t137 (IntKind.wrap IntKind.i64 (t138 + 1)) h K))
 (CallA Try.prog fn_plender_Lenders_Give [pointer l, int IntKind.i64 cur, slice parts partsn partsc] h fun (v : Value) (h : Heap) =>
 ∃ (n : Int),
 v = int IntKind.i64 n ∧
 Br (n == 0) (CallA Try.prog fn_plender_Lenders_Text [pointer l] h fun (v : Value) (h : Heap) => ∃ (s : ByteArray), v = string s ∧ Ret h K (Value.bool (ByteArray.toList s == ByteArray.toList was))) (Ret h K (Value.bool false)))
theorem L_law15_LenderWhole_2r (cur : Int) (l : Option Addr) (was : ByteArray) (parts : Option Addr) (partsn : Nat) (partsc : Nat) (still : Int) (t137 : Int) (t138 : Int) (h : Heap) (K : Value → Heap → Prop) (k : L_law15_LenderWhole_2T cur l was parts partsn partsc still t137 t138 h K) : L_law15_LenderWhole_2 cur l was parts partsn partsc still t137 t138 h K :=
 LoopAt.of_ev (cs := []) Try.func9 mixed (fun junk => by kernel_rfl) k
def F_law15_LenderWholeT (lines : Option Addr) (linesn : Nat) (linesc : Nat) (currencies : Int) (ops : Option Addr) (opsn : Nat) (opsc : Nat) (cur : Int) (need : Int) (h : Heap) (K : Value → Heap → Prop) : Prop :=
 CallA Try.prog fn_law15_awake [] h fun (v : Value) (h : Heap) =>
 ∃ (b : Bool),
 v = Value.bool b ∧
 Br (!b) (Ret h K (Value.bool false))
 (CallA Try.prog fn_law15_large [slice lines linesn linesc, slice ops opsn opsc] h fun (v : Value) (h : Heap) =>
 ∃ (b : Bool),
 v = Value.bool b ∧
 Br b (Ret h K (Value.bool true))
 (CallA Try.prog fn_lender_New [slice lines linesn linesc, int IntKind.i64 currencies] h fun (v : Value) (h : Heap) =>
 ∃ (a : Option Addr), ∃ (n : Int), v = tuple #[pointer a, int IntKind.i64 n] ∧ Br (Option.isNone a) (Ret h K (Value.bool true)) (L_law15_LenderWhole_0 lines linesn linesc cur need a ops opsn opsc (↑opsn : Int) 0 h K)))
theorem F_law15_LenderWhole (lines : Option Addr) (linesn : Nat) (linesc : Nat) (currencies : Int) (ops : Option Addr) (opsn : Nat) (opsc : Nat) (cur : Int) (need : Int) (h : Heap) (K : Value → Heap → Prop) (k : F_law15_LenderWholeT lines linesn linesc currencies ops opsn opsc cur need h K) : CallA Try.prog fn_law15_LenderWhole [slice lines linesn linesc, int IntKind.i64 currencies, slice ops opsn opsc, int IntKind.i64 cur, int IntKind.i64 need] h K :=
 CallA.of_ev (cs := []) Try.func9 (by kernel_rfl) (fun _ _ => Try.call9 _ _) mixed (by kernel_rfl) (by kernel_rfl) k
end Go.Proofs.Ytkcogdmddhkldaa
