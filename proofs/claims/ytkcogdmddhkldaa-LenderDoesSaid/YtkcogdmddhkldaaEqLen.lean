import Derived.Test.YtkcogdmddhkldaaEqN
namespace Go.Proofs.Ytkcogdmddhkldaa
open Go Go.Sy Go.Value
set_option linter.unusedVariables false
set_option maxRecDepth 100000
def L_lender_New_0 (x : Nat) (t28 : Option Addr) (t28n : Nat) (t28c : Nat) (t29 : Int) (t30 : Int) (h : Heap) (K : Value → Heap → Prop) : Prop :=
 LoopAt Try.prog Try.f27 27 (loopK Try.f27 0) (sp 48 [(7, pointer (some { block := x, off := 0 })), (28, slice t28 t28n t28c), (29, int IntKind.i64 t29), (30, int IntKind.i64 t30)]) h K
def L_lender_New_0T (x : Nat) (t28 : Option Addr) (t28n : Nat) (t28c : Nat) (t29 : Int) (t30 : Int) (h : Heap) (K : Value → Heap → Prop) : Prop :=
 Br (decide (t30 < t29))
 (0 ≤ t30 ∧
 t30 < (↑t28n : Int) ∧
 withAddr t28 fun (b o : Nat) =>
 ∃ (a : Option Addr),
 ∃ (n : Nat),
 ∃ (m : Nat),
 Heap.cell h b (o + Int.toNat t30) = some (slice a n m) ∧
 ∃ (a_1 : Option Addr),
 ∃ (n_1 : Nat),
 ∃ (m_1 : Nat),
 Heap.cell h x 0 = some (slice a_1 n_1 m_1) ∧
 CallA Try.prog fn_slices_Clone_int64_int64 [slice a n m] h fun (v : Value) (h_1 : Heap) =>
 ∃ (a : Option Addr),
 ∃ (n : Nat),
 ∃ (m : Nat),
 v = slice a n m ∧
 (Heap.le h h_1 ∨ Keeps [x] h h_1) ∧
 newB h_1 [slice a n m, Value.bool false] 135 fun (r : Nat) (h : Heap) =>
 AppA [slice none 0 0, Value.bool false] 135 h a_1 n_1 m_1 1 (some { block := r, off := 0 }) fun (ap : Option Addr) (cp : Nat) (h : Heap) =>
 Heap.canSt h x 0 1 ∧ L_lender_New_0 x t28 t28n t28c t29 (IntKind.wrap IntKind.i64 (t30 + 1)) (Heap.setN h x 0 [slice ap (n_1 + 1) cp]) K)
 (Ret h K (tuple #[pointer (some { block := x, off := 0 }), int IntKind.i64 0]))
theorem L_lender_New_0r (x : Nat) (t28 : Option Addr) (t28n : Nat) (t28c : Nat) (t29 : Int) (t30 : Int) (h : Heap) (K : Value → Heap → Prop) (k : L_lender_New_0T x t28 t28n t28c t29 t30 h K) : L_lender_New_0 x t28 t28n t28c t29 t30 h K :=
 LoopAt.of_ev (cs := []) Try.func27 mixed (fun junk => by kernel_rfl) k
def F_lender_NewT (lines : Option Addr) (linesn : Nat) (linesc : Nat) (currencies : Int) (h : Heap) (K : Value → Heap → Prop) : Prop :=
 newB h [int IntKind.i64 currencies] 3 fun (r : Nat) (h : Heap) =>
 Br (decide ((↑linesn : Int) > 8)) (Ret h K (tuple #[pointer none, int IntKind.i64 4]))
 (∃ (n : Int),
 Heap.cell h r 0 = some (int IntKind.i64 n) ∧
 Br (decide (n < 1)) (Ret h K (tuple #[pointer none, int IntKind.i64 1]))
 (∃ (n : Int),
 Heap.cell h r 0 = some (int IntKind.i64 n) ∧
 Br (decide (n > 8)) (Ret h K (tuple #[pointer none, int IntKind.i64 1]))
 (CallA Try.prog fn_slices_ContainsFunc_sint64_sint64 [slice lines linesn linesc, func (Fn.func fn_lender_New_1) #[] #[pointer (some { block := r, off := 0 })]] h fun (v : Value) (h : Heap) =>
 ∃ (b : Bool),
 v = Value.bool b ∧
 Br b (Ret h K (tuple #[pointer none, int IntKind.i64 1]))
 (∃ (n : Int), Heap.cell h r 0 = some (int IntKind.i64 n) ∧ newB h [slice none 0 0, int IntKind.i64 n] 133 fun (r : Nat) (h : Heap) => L_lender_New_0 r lines linesn linesc (↑linesn : Int) 0 h K))))
theorem F_lender_New (lines : Option Addr) (linesn : Nat) (linesc : Nat) (currencies : Int) (h : Heap) (K : Value → Heap → Prop) (k : F_lender_NewT lines linesn linesc currencies h K) : CallA Try.prog fn_lender_New [slice lines linesn linesc, int IntKind.i64 currencies] h K :=
 CallA.of_ev (cs := []) Try.func27 (by kernel_rfl) (fun _ _ => Try.call27 _ _) mixed (by kernel_rfl) (by kernel_rfl) k
def F_lender_New_1T (row : Option Addr) (rown : Nat) (rowc : Nat) (c0 : Nat) (h : Heap) (K : Value → Heap → Prop) : Prop :=
 ∃ (n : Int),
 Heap.cell h c0 0 = some (int IntKind.i64 n) ∧
 Br ((↑rown : Int) != n) (Ret h K (Value.bool true)) (CallA Try.prog fn_slices_ContainsFunc_int64_int64 [slice row rown rowc, func (Fn.func fn_lender_New_1_1) #[] #[]] h fun (v : Value) (h : Heap) => ∃ (b : Bool), v = Value.bool b ∧ Ret h K (Value.bool b))
theorem F_lender_New_1 (row : Option Addr) (rown : Nat) (rowc : Nat) (c0 : Nat) (h : Heap) (K : Value → Heap → Prop) (k : F_lender_New_1T row rown rowc c0 h K) : CallA Try.prog fn_lender_New_1 [slice row rown rowc, pointer (some { block := c0, off := 0 })] h K :=
 CallA.of_ev (cs := []) Try.func79 (by kernel_rfl) (fun _ _ => Try.call79 _ _) mixed (by kernel_rfl) (by kernel_rfl) k
def F_lender_New_1_1T (n : Int) (h : Heap) (K : Value → Heap → Prop) : Prop :=
 Ret h K (Value.bool (decide (n < 0)))
theorem F_lender_New_1_1 (n : Int) (h : Heap) (K : Value → Heap → Prop) (k : F_lender_New_1_1T n h K) : CallA Try.prog fn_lender_New_1_1 [int IntKind.i64 n] h K :=
 CallA.of_ev (cs := []) Try.func80 (by kernel_rfl) (fun _ _ => Try.call80 _ _) mixed (by kernel_rfl) (by kernel_rfl) k
def F_plender_Lenders_hasT (x : Option Addr) (cur : Int) (h : Heap) (K : Value → Heap → Prop) : Prop :=
 Br (decide (cur ≥ 0)) (withAddr x fun (b o : Nat) => ∃ (n : Int), Heap.cell h b (o + 1) = some (int IntKind.i64 n) ∧ Ret h K (Value.bool (decide (cur < n)))) (Ret h K (Value.bool false))
theorem F_plender_Lenders_has (x : Option Addr) (cur : Int) (h : Heap) (K : Value → Heap → Prop) (k : F_plender_Lenders_hasT x cur h K) : CallA Try.prog fn_plender_Lenders_has [pointer x, int IntKind.i64 cur] h K :=
 CallA.of_ev (cs := []) Try.func81 (by kernel_rfl) (fun _ _ => Try.call81 _ _) mixed (by kernel_rfl) (by kernel_rfl) k
def F_plender_Lenders_knownT (x : Option Addr) (at' : Int) (h : Heap) (K : Value → Heap → Prop) : Prop :=
 Br (decide (at' ≥ 0)) (withAddr x fun (b o : Nat) => ∃ (a : Option Addr), ∃ (n : Nat), ∃ (m : Nat), Heap.cell h b o = some (slice a n m) ∧ Ret h K (Value.bool (decide (at' < (↑n : Int))))) (Ret h K (Value.bool false))
theorem F_plender_Lenders_known (x : Option Addr) (at' : Int) (h : Heap) (K : Value → Heap → Prop) (k : F_plender_Lenders_knownT x at' h K) : CallA Try.prog fn_plender_Lenders_known [pointer x, int IntKind.i64 at'] h K :=
 CallA.of_ev (cs := []) Try.func83 (by kernel_rfl) (fun _ _ => Try.call83 _ _) mixed (by kernel_rfl) (by kernel_rfl) k
def F_plender_Lenders_LeftT (x : Option Addr) (at' : Int) (cur : Int) (h : Heap) (K : Value → Heap → Prop) : Prop :=
 CallA Try.prog fn_plender_Lenders_known [pointer x, int IntKind.i64 at'] h fun (v : Value) (h : Heap) =>
 ∃ (b : Bool),
 v = Value.bool b ∧
 Br (!b) (Ret h K (int IntKind.i64 0))
 (CallA Try.prog fn_plender_Lenders_has [pointer x, int IntKind.i64 cur] h fun (v : Value) (h : Heap) =>
 ∃ (b : Bool),
 v = Value.bool b ∧
 Br (!b) (Ret h K (int IntKind.i64 0))
 (withAddr x fun (b o : Nat) =>
 ∃ (a : Option Addr),
 ∃ (n : Nat),
 ∃ (m : Nat),
 Heap.cell h b o = some (slice a n m) ∧
 0 ≤ at' ∧
 at' < (↑n : Int) ∧
 withAddr a fun (b o : Nat) =>
 ∃ (b_1 : Bool),
 Heap.cell h b (o + Int.toNat at' * 2 + 1) = some (Value.bool b_1) ∧
 Br b_1 (Ret h K (int IntKind.i64 0))
 (withAddr x fun (b o : Nat) =>
 ∃ (a : Option Addr),
 ∃ (n : Nat),
 ∃ (m : Nat),
 Heap.cell h b o = some (slice a n m) ∧
 0 ≤ at' ∧
 at' < (↑n : Int) ∧
 withAddr a fun (b o : Nat) =>
 ∃ (a : Option Addr),
 ∃ (n : Nat),
 ∃ (m : Nat),
 Heap.cell h b (o + Int.toNat at' * 2) = some (slice a n m) ∧
 0 ≤ cur ∧
 cur < (↑n : Int) ∧ withAddr a fun (b o : Nat) => ∃ (n : Int), Heap.cell h b (o + Int.toNat cur) = some (int IntKind.i64 n) ∧ Ret h K (int IntKind.i64 n))))
theorem F_plender_Lenders_Left (x : Option Addr) (at' : Int) (cur : Int) (h : Heap) (K : Value → Heap → Prop) (k : F_plender_Lenders_LeftT x at' cur h K) : CallA Try.prog fn_plender_Lenders_Left [pointer x, int IntKind.i64 at', int IntKind.i64 cur] h K :=
 CallA.of_ev (cs := []) Try.func39 (by kernel_rfl) (fun _ _ => Try.call39 _ _) mixed (by kernel_rfl) (by kernel_rfl) k
def F_plender_Lenders_FailedT (x : Option Addr) (at' : Int) (h : Heap) (K : Value → Heap → Prop) : Prop :=
 CallA Try.prog fn_plender_Lenders_known [pointer x, int IntKind.i64 at'] h fun (v : Value) (h : Heap) =>
 ∃ (b : Bool),
 v = Value.bool b ∧
 Br b
 (withAddr x fun (b o : Nat) =>
 ∃ (a : Option Addr),
 ∃ (n : Nat),
 ∃ (m : Nat),
 Heap.cell h b o = some (slice a n m) ∧
 0 ≤ at' ∧ at' < (↑n : Int) ∧ withAddr a fun (b o : Nat) => ∃ (b_1 : Bool), Heap.cell h b (o + Int.toNat at' * 2 + 1) = some (Value.bool b_1) ∧ Ret h K (Value.bool b_1))
 (Ret h K (Value.bool false))
theorem F_plender_Lenders_Failed (x : Option Addr) (at' : Int) (h : Heap) (K : Value → Heap → Prop) (k : F_plender_Lenders_FailedT x at' h K) : CallA Try.prog fn_plender_Lenders_Failed [pointer x, int IntKind.i64 at'] h K :=
 CallA.of_ev (cs := []) Try.func41 (by kernel_rfl) (fun _ _ => Try.call41 _ _) mixed (by kernel_rfl) (by kernel_rfl) k
def F_plender_Lenders_FailT (x : Option Addr) (at' : Int) (h : Heap) (K : Value → Heap → Prop) : Prop :=
 CallA Try.prog fn_plender_Lenders_known [pointer x, int IntKind.i64 at'] h fun (v : Value) (h : Heap) =>
 ∃ (b : Bool),
 v = Value.bool b ∧
 Br (!b) (Ret h K (int IntKind.i64 5))
 (withAddr x fun (b o : Nat) =>
 ∃ (a : Option Addr),
 ∃ (n : Nat),
 ∃ (m : Nat),
 Heap.cell h b o = some (slice a n m) ∧
 0 ≤ at' ∧
 at' < (↑n : Int) ∧
 withAddr a fun (b o : Nat) =>
 ∃ (b_1 : Bool),
 Heap.cell h b (o + Int.toNat at' * 2 + 1) = some (Value.bool b_1) ∧
 Br b_1 (Ret h K (int IntKind.i64 11))
 (withAddr x fun (b o : Nat) =>
 ∃ (a : Option Addr),
 ∃ (n : Nat),
 ∃ (m : Nat),
 Heap.cell h b o = some (slice a n m) ∧
 0 ≤ at' ∧
 at' < (↑n : Int) ∧
 withAddr a fun (b o : Nat) => Heap.canSt h b (o + Int.toNat at' * 2 + 1) 1 ∧ Ret (Heap.setN h b (o + Int.toNat at' * 2 + 1) [Value.bool true]) K (int IntKind.i64 0)))
theorem F_plender_Lenders_Fail (x : Option Addr) (at' : Int) (h : Heap) (K : Value → Heap → Prop) (k : F_plender_Lenders_FailT x at' h K) : CallA Try.prog fn_plender_Lenders_Fail [pointer x, int IntKind.i64 at'] h K :=
 CallA.of_ev (cs := []) Try.func35 (by kernel_rfl) (fun _ _ => Try.call35 _ _) mixed (by kernel_rfl) (by kernel_rfl) k
def L_plender_Lenders_Draw_0 (x : Option Addr) (cur : Int) (need : Int) (rooms : Option Addr) (roomsn : Nat) (roomsc : Nat) (t29 : Int) (t30 : Int) (h : Heap) (K : Value → Heap → Prop) : Prop :=
 LoopAt Try.prog Try.f29 29 (loopK Try.f29 0) (sp 83 [(0, pointer x), (1, int IntKind.i64 cur), (2, int IntKind.i64 need), (9, slice rooms roomsn roomsc), (29, int IntKind.i64 t29), (30, int IntKind.i64 t30)]) h K
def L_plender_Lenders_Draw_1 (x : Option Addr) (cur : Int) (still : Int) (parts : Option Addr) (partsn : Nat) (partsc : Nat) (t51 : Option Addr) (t51n : Nat) (t51c : Nat) (t52 : Int) (t53 : Int) (h : Heap) (K : Value → Heap → Prop) : Prop :=
 LoopAt Try.prog Try.f29 29 (loopK Try.f29 1) (sp 83 [(0, pointer x), (1, int IntKind.i64 cur), (12, int IntKind.i64 still), (14, slice parts partsn partsc), (51, slice t51 t51n t51c), (52, int IntKind.i64 t52), (53, int IntKind.i64 t53)]) h K
def L_plender_Lenders_Draw_0T (x : Option Addr) (cur : Int) (need : Int) (rooms : Option Addr) (roomsn : Nat) (roomsc : Nat) (t29 : Int) (t30 : Int) (h : Heap) (K : Value → Heap → Prop) : Prop :=
 Br (decide (t30 < t29))
 (CallA Try.prog fn_plender_Lenders_Left [pointer x, int IntKind.i64 t30, int IntKind.i64 cur] h fun (v : Value) (h : Heap) =>
 ∃ (n : Int),
 v = int IntKind.i64 n ∧
 newB h [int IntKind.i64 n] 2 fun (r : Nat) (h : Heap) =>
 AppA [int IntKind.i64 0] 2 h rooms roomsn roomsc 1 (some { block := r, off := 0 }) fun (ap : Option Addr) (cp : Nat) (h : Heap) =>
 L_plender_Lenders_Draw_0 x cur need ap (roomsn + 1) cp t29 (IntKind.wrap IntKind.i64 (t30 + 1)) h K)
 (CallA Try.prog fn_split_Fill [int IntKind.i64 need, slice rooms roomsn roomsc] h fun (v : Value) (h : Heap) =>
 ∃ (a : Option Addr),
 ∃ (n : Nat),
 ∃ (m : Nat),
 ∃ (n_1 : Int),
 ∃ (n_2 : Int),
 v = tuple #[slice a n m, int IntKind.i64 n_1, int IntKind.i64 n_2] ∧
 Br (n_2 != 0) (Ret h K (tuple #[slice none 0 0, int IntKind.i64 0, int IntKind.i64 n_2])) (L_plender_Lenders_Draw_1 x cur n_1 none 0 0 a n m (↑n : Int) 0 h K))
theorem L_plender_Lenders_Draw_0r (x : Option Addr) (cur : Int) (need : Int) (rooms : Option Addr) (roomsn : Nat) (roomsc : Nat) (t29 : Int) (t30 : Int) (h : Heap) (K : Value → Heap → Prop) (k : L_plender_Lenders_Draw_0T x cur need rooms roomsn roomsc t29 t30 h K) : L_plender_Lenders_Draw_0 x cur need rooms roomsn roomsc t29 t30 h K :=
 LoopAt.of_ev (cs := []) Try.func29 mixed (fun junk => by kernel_rfl) k
def L_plender_Lenders_Draw_1T (x : Option Addr) (cur : Int) (still : Int) (parts : Option Addr) (partsn : Nat) (partsc : Nat) (t51 : Option Addr) (t51n : Nat) (t51c : Nat) (t52 : Int) (t53 : Int) (h : Heap) (K : Value → Heap → Prop) : Prop :=
 Br (decide (t53 < t52))
 (0 ≤ t53 ∧
 t53 < (↑t51n : Int) ∧
 withAddr t51 fun (b o : Nat) =>
 ∃ (n : Int),
 Heap.cell h b (o + Int.toNat t53) = some (int IntKind.i64 n) ∧
 Br (decide (n > 0))
 (withAddr x fun (b o : Nat) =>
 ∃ (a : Option Addr),
 ∃ (n_1 : Nat),
 ∃ (m : Nat),
 Heap.cell h b o = some (slice a n_1 m) ∧
 0 ≤ t53 ∧
 t53 < (↑n_1 : Int) ∧
 withAddr a fun (b o : Nat) =>
 ∃ (a : Option Addr),
 ∃ (n_2 : Nat),
 ∃ (m : Nat),
 Heap.cell h b (o + Int.toNat t53 * 2) = some (slice a n_2 m) ∧
 0 ≤ cur ∧
 cur < (↑n_2 : Int) ∧
 withAddr a fun (b o : Nat) =>
 ∃ (n_3 : Int),
 Heap.cell h b (o + Int.toNat cur) = some (int IntKind.i64 n_3) ∧
 0 ≤ cur ∧
 cur < (↑n_2 : Int) ∧
 withAddr a fun (b o : Nat) =>
 Heap.canSt h b (o + Int.toNat cur) 1 ∧
 newB (Heap.setN h b (o + Int.toNat cur) [int IntKind.i64 (IntKind.wrap IntKind.i64 (n_3 - n))]) [int IntKind.i64 t53, int IntKind.i64 n] 78
 fun (r : Nat) (h : Heap) =>
 AppA [int IntKind.i64 0, int IntKind.i64 0] 78 h parts partsn partsc 1 (some { block := r, off := 0 }) fun (ap : Option Addr) (cp : Nat) (h : Heap) =>
 L_plender_Lenders_Draw_1 x cur still ap (partsn + 1) cp t51 t51n t51c t52 (IntKind.wrap IntKind.i64 (t53 + 1)) h K)
 (L_plender_Lenders_Draw_1 x cur still parts partsn partsc t51 t51n t51c t52 (IntKind.wrap IntKind.i64 (t53 + 1)) h K))
 (Ret h K (tuple #[slice parts partsn partsc, int IntKind.i64 still, int IntKind.i64 0]))
theorem L_plender_Lenders_Draw_1r (x : Option Addr) (cur : Int) (still : Int) (parts : Option Addr) (partsn : Nat) (partsc : Nat) (t51 : Option Addr) (t51n : Nat) (t51c : Nat) (t52 : Int) (t53 : Int) (h : Heap) (K : Value → Heap → Prop) (k : L_plender_Lenders_Draw_1T x cur still parts partsn partsc t51 t51n t51c t52 t53 h K) : L_plender_Lenders_Draw_1 x cur still parts partsn partsc t51 t51n t51c t52 t53 h K :=
 LoopAt.of_ev (cs := []) Try.func29 mixed (fun junk => by kernel_rfl) k
def F_plender_Lenders_DrawT (x : Option Addr) (cur : Int) (need : Int) (h : Heap) (K : Value → Heap → Prop) : Prop :=
 CallA Try.prog fn_plender_Lenders_has [pointer x, int IntKind.i64 cur] h fun (v : Value) (h : Heap) =>
 ∃ (b : Bool),
 v = Value.bool b ∧
 Br (!b) (Ret h K (tuple #[slice none 0 0, int IntKind.i64 0, int IntKind.i64 1]))
 (Br (decide (need < 0)) (Ret h K (tuple #[slice none 0 0, int IntKind.i64 0, int IntKind.i64 1]))
 (withAddr x fun (b o : Nat) => ∃ (a : Option Addr), ∃ (n : Nat), ∃ (m : Nat), Heap.cell h b o = some (slice a n m) ∧ L_plender_Lenders_Draw_0 x cur need none 0 0 (↑n : Int) 0 h K))
theorem F_plender_Lenders_Draw (x : Option Addr) (cur : Int) (need : Int) (h : Heap) (K : Value → Heap → Prop) (k : F_plender_Lenders_DrawT x cur need h K) : CallA Try.prog fn_plender_Lenders_Draw [pointer x, int IntKind.i64 cur, int IntKind.i64 need] h K :=
 CallA.of_ev (cs := []) Try.func29 (by kernel_rfl) (fun _ _ => Try.call29 _ _) mixed (by kernel_rfl) (by kernel_rfl) k
def L_split_Fill_0 (total : Int) (out : Option Addr) (outn : Nat) (outc : Nat) (t22 : Option Addr) (t22n : Nat) (t22c : Nat) (t23 : Int) (t24 : Int) (h : Heap) (K : Value → Heap → Prop) : Prop :=
 LoopAt Try.prog Try.f23 23 (loopK Try.f23 0) (sp 41 [(0, int IntKind.i64 total), (7, slice out outn outc), (22, slice t22 t22n t22c), (23, int IntKind.i64 t23), (24, int IntKind.i64 t24)]) h K
def L_split_Fill_0T (total : Int) (out : Option Addr) (outn : Nat) (outc : Nat) (t22 : Option Addr) (t22n : Nat) (t22c : Nat) (t23 : Int) (t24 : Int) (h : Heap) (K : Value → Heap → Prop) : Prop :=
 Br (decide (t24 < t23))
 (0 ≤ t24 ∧
 t24 < (↑t22n : Int) ∧
 withAddr t22 fun (b o : Nat) =>
 ∃ (n : Int),
 Heap.cell h b (o + Int.toNat t24) = some (int IntKind.i64 n) ∧
 newB h [int IntKind.i64 (if total < n then total else n)] 2 fun (r : Nat) (h : Heap) =>
 AppA [int IntKind.i64 0] 2 h out outn outc 1 (some { block := r, off := 0 }) fun (ap : Option Addr) (cp : Nat) (h : Heap) =>
 L_split_Fill_0 (IntKind.wrap IntKind.i64 (total - if total < n then total else n)) ap (outn + 1) cp t22 t22n t22c t23 (IntKind.wrap IntKind.i64 (t24 + 1)) h K)
 (Ret h K (tuple #[slice out outn outc, int IntKind.i64 total, int IntKind.i64 0]))
theorem L_split_Fill_0r (total : Int) (out : Option Addr) (outn : Nat) (outc : Nat) (t22 : Option Addr) (t22n : Nat) (t22c : Nat) (t23 : Int) (t24 : Int) (h : Heap) (K : Value → Heap → Prop) (k : L_split_Fill_0T total out outn outc t22 t22n t22c t23 t24 h K) : L_split_Fill_0 total out outn outc t22 t22n t22c t23 t24 h K :=
 LoopAt.of_ev (cs := []) Try.func23 mixed (fun junk => by kernel_rfl) k
def F_split_FillT (total : Int) (rooms : Option Addr) (roomsn : Nat) (roomsc : Nat) (h : Heap) (K : Value → Heap → Prop) : Prop :=
 Br (decide ((↑roomsn : Int) > 64)) (Ret h K (tuple #[slice none 0 0, int IntKind.i64 0, int IntKind.i64 4]))
 (Br (decide (total < 0)) (Ret h K (tuple #[slice none 0 0, int IntKind.i64 0, int IntKind.i64 1]))
 (CallA Try.prog fn_slices_ContainsFunc_int64_int64 [slice rooms roomsn roomsc, func (Fn.func fn_split_below) #[] #[]] h fun (v : Value) (h : Heap) =>
 ∃ (b : Bool), v = Value.bool b ∧ Br b (Ret h K (tuple #[slice none 0 0, int IntKind.i64 0, int IntKind.i64 1])) (L_split_Fill_0 total none 0 0 rooms roomsn roomsc (↑roomsn : Int) 0 h K)))
theorem F_split_Fill (total : Int) (rooms : Option Addr) (roomsn : Nat) (roomsc : Nat) (h : Heap) (K : Value → Heap → Prop) (k : F_split_FillT total rooms roomsn roomsc h K) : CallA Try.prog fn_split_Fill [int IntKind.i64 total, slice rooms roomsn roomsc] h K :=
 CallA.of_ev (cs := []) Try.func23 (by kernel_rfl) (fun _ _ => Try.call23 _ _) mixed (by kernel_rfl) (by kernel_rfl) k
def F_split_belowT (n : Int) (h : Heap) (K : Value → Heap → Prop) : Prop :=
 Ret h K (Value.bool (decide (n < 0)))
theorem F_split_below (n : Int) (h : Heap) (K : Value → Heap → Prop) (k : F_split_belowT n h K) : CallA Try.prog fn_split_below [int IntKind.i64 n] h K :=
 CallA.of_ev (cs := []) Try.func77 (by kernel_rfl) (fun _ _ => Try.call77 _ _) mixed (by kernel_rfl) (by kernel_rfl) k
def F_slices_ContainsFunc_sint64_sint64_bT (s : Option Addr) (sn : Nat) (sc : Nat) (fr0 : Nat) (h : Heap) (K : Value → Heap → Prop) : Prop :=
 CallA Try.prog fn_slices_IndexFunc_sint64_sint64 [slice s sn sc, func (Fn.func fn_lender_New_1) #[] #[pointer (some { block := fr0, off := 0 })]] h fun (v : Value) (h : Heap) => ∃ (n : Int), v = int IntKind.i64 n ∧ Ret h K (Value.bool (decide (n ≥ 0)))
theorem F_slices_ContainsFunc_sint64_sint64_b (s : Option Addr) (sn : Nat) (sc : Nat) (fr0 : Nat) (h : Heap) (K : Value → Heap → Prop) (k : F_slices_ContainsFunc_sint64_sint64_bT s sn sc fr0 h K) : CallA Try.prog fn_slices_ContainsFunc_sint64_sint64 [slice s sn sc, func (Fn.func fn_lender_New_1) #[] #[pointer (some { block := fr0, off := 0 })]] h K :=
 CallA.of_ev (cs := []) Try.func65 (by kernel_rfl) (fun _ _ => Try.call65 _ _) mixed (by kernel_rfl) (by kernel_rfl) k
def L_slices_IndexFunc_sint64_sint64_b_0 (s : Option Addr) (sn : Nat) (sc : Nat) (f_0 : Nat) (t7 : Int) (t8 : Int) (h : Heap) (K : Value → Heap → Prop) : Prop :=
 LoopAt Try.prog Try.f101 101 (loopK Try.f101 0) (sp 19 [(0, slice s sn sc), (1, func (Fn.func fn_lender_New_1) #[] #[pointer (some { block := f_0, off := 0 })]), (7, int IntKind.i64 t7), (8, int IntKind.i64 t8)]) h K
def L_slices_IndexFunc_sint64_sint64_b_0T (s : Option Addr) (sn : Nat) (sc : Nat) (f_0 : Nat) (t7 : Int) (t8 : Int) (h : Heap) (K : Value → Heap → Prop) : Prop :=
 Br (decide (t8 < t7))
 (0 ≤ t8 ∧
 t8 < (↑sn : Int) ∧
 withAddr s fun (b o : Nat) =>
 ∃ (a : Option Addr),
 ∃ (n : Nat),
 ∃ (m : Nat),
 Heap.cell h b (o + Int.toNat t8) = some (slice a n m) ∧
 CallA Try.prog fn_lender_New_1 [slice a n m, pointer (some { block := f_0, off := 0 })] h fun (v : Value) (h : Heap) =>
 ∃ (b : Bool), v = Value.bool b ∧ Br b (Ret h K (int IntKind.i64 t8)) (L_slices_IndexFunc_sint64_sint64_b_0 s sn sc f_0 t7 (IntKind.wrap IntKind.i64 (t8 + 1)) h K))
 (Ret h K (int IntKind.i64 (-1)))
theorem L_slices_IndexFunc_sint64_sint64_b_0r (s : Option Addr) (sn : Nat) (sc : Nat) (f_0 : Nat) (t7 : Int) (t8 : Int) (h : Heap) (K : Value → Heap → Prop) (k : L_slices_IndexFunc_sint64_sint64_b_0T s sn sc f_0 t7 t8 h K) : L_slices_IndexFunc_sint64_sint64_b_0 s sn sc f_0 t7 t8 h K :=
 LoopAt.of_ev (cs := []) Try.func101 mixed (fun junk => by kernel_rfl) k
def F_slices_IndexFunc_sint64_sint64_bT (s : Option Addr) (sn : Nat) (sc : Nat) (fr0 : Nat) (h : Heap) (K : Value → Heap → Prop) : Prop :=
 L_slices_IndexFunc_sint64_sint64_b_0 s sn sc fr0 (↑sn : Int) 0 h K
theorem F_slices_IndexFunc_sint64_sint64_b (s : Option Addr) (sn : Nat) (sc : Nat) (fr0 : Nat) (h : Heap) (K : Value → Heap → Prop) (k : F_slices_IndexFunc_sint64_sint64_bT s sn sc fr0 h K) : CallA Try.prog fn_slices_IndexFunc_sint64_sint64 [slice s sn sc, func (Fn.func fn_lender_New_1) #[] #[pointer (some { block := fr0, off := 0 })]] h K :=
 CallA.of_ev (cs := []) Try.func101 (by kernel_rfl) (fun _ _ => Try.call101 _ _) mixed (by kernel_rfl) (by kernel_rfl) k
def F_slices_ContainsFunc_int64_int64_cT (s : Option Addr) (sn : Nat) (sc : Nat) (h : Heap) (K : Value → Heap → Prop) : Prop :=
 CallA Try.prog fn_slices_IndexFunc_int64_int64 [slice s sn sc, func (Fn.func fn_lender_New_1_1) #[] #[]] h fun (v : Value) (h : Heap) => ∃ (n : Int), v = int IntKind.i64 n ∧ Ret h K (Value.bool (decide (n ≥ 0)))
theorem F_slices_ContainsFunc_int64_int64_c (s : Option Addr) (sn : Nat) (sc : Nat) (h : Heap) (K : Value → Heap → Prop) (k : F_slices_ContainsFunc_int64_int64_cT s sn sc h K) : CallA Try.prog fn_slices_ContainsFunc_int64_int64 [slice s sn sc, func (Fn.func fn_lender_New_1_1) #[] #[]] h K :=
 CallA.of_ev (cs := []) Try.func76 (by kernel_rfl) (fun _ _ => Try.call76 _ _) mixed (by kernel_rfl) (by kernel_rfl) k
def L_slices_IndexFunc_int64_int64_c_0 (s : Option Addr) (sn : Nat) (sc : Nat) (t7 : Int) (t8 : Int) (h : Heap) (K : Value → Heap → Prop) : Prop :=
 LoopAt Try.prog Try.f116 116 (loopK Try.f116 0) (sp 19 [(0, slice s sn sc), (1, func (Fn.func fn_lender_New_1_1) #[] #[]), (7, int IntKind.i64 t7), (8, int IntKind.i64 t8)]) h K
def L_slices_IndexFunc_int64_int64_c_0T (s : Option Addr) (sn : Nat) (sc : Nat) (t7 : Int) (t8 : Int) (h : Heap) (K : Value → Heap → Prop) : Prop :=
 Br (decide (t8 < t7))
 (0 ≤ t8 ∧
 t8 < (↑sn : Int) ∧
 withAddr s fun (b o : Nat) =>
 ∃ (n : Int),
 Heap.cell h b (o + Int.toNat t8) = some (int IntKind.i64 n) ∧
 CallA Try.prog fn_lender_New_1_1 [int IntKind.i64 n] h fun (v : Value) (h : Heap) => ∃ (b : Bool), v = Value.bool b ∧ Br b (Ret h K (int IntKind.i64 t8)) (L_slices_IndexFunc_int64_int64_c_0 s sn sc t7 (IntKind.wrap IntKind.i64 (t8 + 1)) h K))
 (Ret h K (int IntKind.i64 (-1)))
theorem L_slices_IndexFunc_int64_int64_c_0r (s : Option Addr) (sn : Nat) (sc : Nat) (t7 : Int) (t8 : Int) (h : Heap) (K : Value → Heap → Prop) (k : L_slices_IndexFunc_int64_int64_c_0T s sn sc t7 t8 h K) : L_slices_IndexFunc_int64_int64_c_0 s sn sc t7 t8 h K :=
 LoopAt.of_ev (cs := []) Try.func116 mixed (fun junk => by kernel_rfl) k
def F_slices_IndexFunc_int64_int64_cT (s : Option Addr) (sn : Nat) (sc : Nat) (h : Heap) (K : Value → Heap → Prop) : Prop :=
 L_slices_IndexFunc_int64_int64_c_0 s sn sc (↑sn : Int) 0 h K
theorem F_slices_IndexFunc_int64_int64_c (s : Option Addr) (sn : Nat) (sc : Nat) (h : Heap) (K : Value → Heap → Prop) (k : F_slices_IndexFunc_int64_int64_cT s sn sc h K) : CallA Try.prog fn_slices_IndexFunc_int64_int64 [slice s sn sc, func (Fn.func fn_lender_New_1_1) #[] #[]] h K :=
 CallA.of_ev (cs := []) Try.func116 (by kernel_rfl) (fun _ _ => Try.call116 _ _) mixed (by kernel_rfl) (by kernel_rfl) k
def F_slices_ContainsFunc_int64_int64_dT (s : Option Addr) (sn : Nat) (sc : Nat) (h : Heap) (K : Value → Heap → Prop) : Prop :=
 CallA Try.prog fn_slices_IndexFunc_int64_int64 [slice s sn sc, func (Fn.func fn_split_below) #[] #[]] h fun (v : Value) (h : Heap) => ∃ (n : Int), v = int IntKind.i64 n ∧ Ret h K (Value.bool (decide (n ≥ 0)))
theorem F_slices_ContainsFunc_int64_int64_d (s : Option Addr) (sn : Nat) (sc : Nat) (h : Heap) (K : Value → Heap → Prop) (k : F_slices_ContainsFunc_int64_int64_dT s sn sc h K) : CallA Try.prog fn_slices_ContainsFunc_int64_int64 [slice s sn sc, func (Fn.func fn_split_below) #[] #[]] h K :=
 CallA.of_ev (cs := []) Try.func76 (by kernel_rfl) (fun _ _ => Try.call76 _ _) mixed (by kernel_rfl) (by kernel_rfl) k
def L_slices_IndexFunc_int64_int64_d_0 (s : Option Addr) (sn : Nat) (sc : Nat) (t7 : Int) (t8 : Int) (h : Heap) (K : Value → Heap → Prop) : Prop :=
 LoopAt Try.prog Try.f116 116 (loopK Try.f116 0) (sp 19 [(0, slice s sn sc), (1, func (Fn.func fn_split_below) #[] #[]), (7, int IntKind.i64 t7), (8, int IntKind.i64 t8)]) h K
def L_slices_IndexFunc_int64_int64_d_0T (s : Option Addr) (sn : Nat) (sc : Nat) (t7 : Int) (t8 : Int) (h : Heap) (K : Value → Heap → Prop) : Prop :=
 Br (decide (t8 < t7))
 (0 ≤ t8 ∧
 t8 < (↑sn : Int) ∧
 withAddr s fun (b o : Nat) =>
 ∃ (n : Int),
 Heap.cell h b (o + Int.toNat t8) = some (int IntKind.i64 n) ∧
 CallA Try.prog fn_split_below [int IntKind.i64 n] h fun (v : Value) (h : Heap) => ∃ (b : Bool), v = Value.bool b ∧ Br b (Ret h K (int IntKind.i64 t8)) (L_slices_IndexFunc_int64_int64_d_0 s sn sc t7 (IntKind.wrap IntKind.i64 (t8 + 1)) h K))
 (Ret h K (int IntKind.i64 (-1)))
theorem L_slices_IndexFunc_int64_int64_d_0r (s : Option Addr) (sn : Nat) (sc : Nat) (t7 : Int) (t8 : Int) (h : Heap) (K : Value → Heap → Prop) (k : L_slices_IndexFunc_int64_int64_d_0T s sn sc t7 t8 h K) : L_slices_IndexFunc_int64_int64_d_0 s sn sc t7 t8 h K :=
 LoopAt.of_ev (cs := []) Try.func116 mixed (fun junk => by kernel_rfl) k
def F_slices_IndexFunc_int64_int64_dT (s : Option Addr) (sn : Nat) (sc : Nat) (h : Heap) (K : Value → Heap → Prop) : Prop :=
 L_slices_IndexFunc_int64_int64_d_0 s sn sc (↑sn : Int) 0 h K
theorem F_slices_IndexFunc_int64_int64_d (s : Option Addr) (sn : Nat) (sc : Nat) (h : Heap) (K : Value → Heap → Prop) (k : F_slices_IndexFunc_int64_int64_dT s sn sc h K) : CallA Try.prog fn_slices_IndexFunc_int64_int64 [slice s sn sc, func (Fn.func fn_split_below) #[] #[]] h K :=
 CallA.of_ev (cs := []) Try.func116 (by kernel_rfl) (fun _ _ => Try.call116 _ _) mixed (by kernel_rfl) (by kernel_rfl) k
end Go.Proofs.Ytkcogdmddhkldaa
