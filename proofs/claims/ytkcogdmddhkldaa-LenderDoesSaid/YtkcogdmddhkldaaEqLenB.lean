import Derived.Test.YtkcogdmddhkldaaEqN
namespace Go.Proofs.Ytkcogdmddhkldaa
open Go Go.Sy Go.Value
set_option linter.unusedVariables false
set_option maxRecDepth 100000
def L_plender_Lenders_Give_0 (cur : Int) (parts : Option Addr) (partsn : Nat) (partsc : Nat) (x : Nat) (more : Option Nat) (t28 : Option Addr) (t28n : Nat) (t28c : Nat) (t29 : Int) (t30 : Int) (h : Heap) (K : Value → Heap → Prop) : Prop :=
 LoopAt Try.prog Try.f33 33 (loopK Try.f33 0) (sp 92 [(1, int IntKind.i64 cur), (2, slice parts partsn partsc), (3, pointer (some { block := x, off := 0 })), (8, map more), (28, slice t28 t28n t28c), (29, int IntKind.i64 t29), (30, int IntKind.i64 t30)]) h K
def L_plender_Lenders_Give_1 (cur : Int) (x : Nat) (more : Option Nat) (t70 : Option Addr) (t70n : Nat) (t70c : Nat) (t71 : Int) (t72 : Int) (h : Heap) (K : Value → Heap → Prop) : Prop :=
 LoopAt Try.prog Try.f33 33 (loopK Try.f33 1) (sp 92 [(1, int IntKind.i64 cur), (3, pointer (some { block := x, off := 0 })), (8, map more), (70, slice t70 t70n t70c), (71, int IntKind.i64 t71), (72, int IntKind.i64 t72)]) h K
def L_plender_Lenders_Give_0T (cur : Int) (parts : Option Addr) (partsn : Nat) (partsc : Nat) (x : Nat) (more : Option Nat) (t28 : Option Addr) (t28n : Nat) (t28c : Nat) (t29 : Int) (t30 : Int) (h : Heap) (K : Value → Heap → Prop) : Prop :=
 Br (decide (t30 < t29))
 (0 ≤ t30 ∧
 t30 < (↑t28n : Int) ∧
 withAddr t28 fun (b o : Nat) =>
 ∃ (n : Int),
 Heap.cell h b (o + Int.toNat t30 * 2) = some (int IntKind.i64 n) ∧
 ∃ (n_1 : Int),
 Heap.cell h b (o + Int.toNat t30 * 2 + 1) = some (int IntKind.i64 n_1) ∧
 newB h [int IntKind.i64 0, int IntKind.i64 0] 78 fun (r : Nat) (h : Heap) =>
 Heap.canSt h r 0 2 ∧
 ∃ (n_2 : Int),
 Heap.cell (Heap.setN h r 0 [int IntKind.i64 n, int IntKind.i64 n_1]) r 0 = some (int IntKind.i64 n_2) ∧
 MGetA (Heap.setN h r 0 [int IntKind.i64 n, int IntKind.i64 n_1]) more IntKind.i64 IntKind.i64 n_2 fun (n_3 : Int) (is : Bool) =>
 Br (!is)
 (∃ (a : Option Addr),
 Heap.cell (Heap.setN h r 0 [int IntKind.i64 n, int IntKind.i64 n_1]) x 0 = some (pointer a) ∧
 withAddr a fun (b o : Nat) =>
 ∃ (a : Option Addr),
 ∃ (n_4 : Nat),
 ∃ (m : Nat),
 Heap.cell (Heap.setN h r 0 [int IntKind.i64 n, int IntKind.i64 n_1]) b o = some (slice a n_4 m) ∧
 ∃ (n_5 : Int),
 Heap.cell (Heap.setN h r 0 [int IntKind.i64 n, int IntKind.i64 n_1]) r 0 = some (int IntKind.i64 n_5) ∧
 0 ≤ n_5 ∧
 n_5 < (↑n_4 : Int) ∧
 withAddr a fun (b o : Nat) =>
 ∃ (a : Option Addr),
 ∃ (n_6 : Nat),
 ∃ (m : Nat),
 Heap.cell (Heap.setN h r 0 [int IntKind.i64 n, int IntKind.i64 n_1]) b (o + Int.toNat n_5 * 2) = some (slice a n_6 m) ∧
 0 ≤ cur ∧
 cur < (↑n_6 : Int) ∧
 withAddr a fun (b o : Nat) =>
 ∃ (n_7 : Int),
 Heap.cell (Heap.setN h r 0 [int IntKind.i64 n, int IntKind.i64 n_1]) b (o + Int.toNat cur) = some (int IntKind.i64 n_7) ∧
 ∃ (n_8 : Int),
 Heap.cell (Heap.setN h r 0 [int IntKind.i64 n, int IntKind.i64 n_1]) r 1 = some (int IntKind.i64 n_8) ∧
 CallA Try.prog fn_money_Add [int IntKind.i64 n_7, int IntKind.i64 n_8] (Heap.setN h r 0 [int IntKind.i64 n, int IntKind.i64 n_1])
 fun (v : Value) (h : Heap) =>
 ∃ (n : Int),
 ∃ (n_9 : Int),
 v = tuple #[int IntKind.i64 n, int IntKind.i64 n_9] ∧
 Br (n_9 != 0) (Ret h K (int IntKind.i64 n_9))
 (∃ (n_10 : Int),
 Heap.cell h r 0 = some (int IntKind.i64 n_10) ∧
 MPutA h more IntKind.i64 IntKind.i64 n_10 n fun (h : Heap) =>
 L_plender_Lenders_Give_0 cur parts partsn partsc x more t28 t28n t28c t29 (IntKind.wrap IntKind.i64 (t30 + 1)) h K))
 (∃ (n_4 : Int),
 Heap.cell (Heap.setN h r 0 [int IntKind.i64 n, int IntKind.i64 n_1]) r 1 = some (int IntKind.i64 n_4) ∧
 CallA Try.prog fn_money_Add [int IntKind.i64 n_3, int IntKind.i64 n_4] (Heap.setN h r 0 [int IntKind.i64 n, int IntKind.i64 n_1]) fun (v : Value) (h : Heap) =>
 ∃ (n : Int),
 ∃ (n_5 : Int),
 v = tuple #[int IntKind.i64 n, int IntKind.i64 n_5] ∧
 Br (n_5 != 0) (Ret h K (int IntKind.i64 n_5))
 (∃ (n_6 : Int),
 Heap.cell h r 0 = some (int IntKind.i64 n_6) ∧
 MPutA h more IntKind.i64 IntKind.i64 n_6 n fun (h : Heap) => L_plender_Lenders_Give_0 cur parts partsn partsc x more t28 t28n t28c t29 (IntKind.wrap IntKind.i64 (t30 + 1)) h K)))
 (L_plender_Lenders_Give_1 cur x more parts partsn partsc (↑partsn : Int) 0 h K)
theorem L_plender_Lenders_Give_0r (cur : Int) (parts : Option Addr) (partsn : Nat) (partsc : Nat) (x : Nat) (more : Option Nat) (t28 : Option Addr) (t28n : Nat) (t28c : Nat) (t29 : Int) (t30 : Int) (h : Heap) (K : Value → Heap → Prop) (k : L_plender_Lenders_Give_0T cur parts partsn partsc x more t28 t28n t28c t29 t30 h K) : L_plender_Lenders_Give_0 cur parts partsn partsc x more t28 t28n t28c t29 t30 h K :=
 LoopAt.of_ev (cs := []) Try.func33 mixed (fun junk => by kernel_rfl) k
def L_plender_Lenders_Give_1T (cur : Int) (x : Nat) (more : Option Nat) (t70 : Option Addr) (t70n : Nat) (t70c : Nat) (t71 : Int) (t72 : Int) (h : Heap) (K : Value → Heap → Prop) : Prop :=
 Br (decide (t72 < t71))
 (0 ≤ t72 ∧
 t72 < (↑t70n : Int) ∧
 withAddr t70 fun (b o : Nat) =>
 ∃ (n : Int),
 Heap.cell h b (o + Int.toNat t72 * 2) = some (int IntKind.i64 n) ∧
 ∃ (n_1 : Int),
 Heap.cell h b (o + Int.toNat t72 * 2 + 1) = some (int IntKind.i64 n_1) ∧
 newB h [int IntKind.i64 0, int IntKind.i64 0] 78 fun (r : Nat) (h : Heap) =>
 Heap.canSt h r 0 2 ∧
 ∃ (a : Option Addr),
 Heap.cell (Heap.setN h r 0 [int IntKind.i64 n, int IntKind.i64 n_1]) x 0 = some (pointer a) ∧
 withAddr a fun (b o : Nat) =>
 ∃ (a : Option Addr),
 ∃ (n_2 : Nat),
 ∃ (m : Nat),
 Heap.cell (Heap.setN h r 0 [int IntKind.i64 n, int IntKind.i64 n_1]) b o = some (slice a n_2 m) ∧
 ∃ (n_3 : Int),
 Heap.cell (Heap.setN h r 0 [int IntKind.i64 n, int IntKind.i64 n_1]) r 0 = some (int IntKind.i64 n_3) ∧
 0 ≤ n_3 ∧
 n_3 < (↑n_2 : Int) ∧
 withAddr a fun (b o : Nat) =>
 ∃ (a : Option Addr),
 ∃ (n_4 : Nat),
 ∃ (m : Nat),
 Heap.cell (Heap.setN h r 0 [int IntKind.i64 n, int IntKind.i64 n_1]) b (o + Int.toNat n_3 * 2) = some (slice a n_4 m) ∧
 ∃ (n_5 : Int),
 Heap.cell (Heap.setN h r 0 [int IntKind.i64 n, int IntKind.i64 n_1]) r 0 = some (int IntKind.i64 n_5) ∧
 MGetA (Heap.setN h r 0 [int IntKind.i64 n, int IntKind.i64 n_1]) more IntKind.i64 IntKind.i64 n_5 fun (n_6 : Int) (is : Bool) =>
 0 ≤ cur ∧
 cur < (↑n_4 : Int) ∧
 withAddr a fun (b o : Nat) =>
 Heap.canSt (Heap.setN h r 0 [int IntKind.i64 n, int IntKind.i64 n_1]) b (o + Int.toNat cur) 1 ∧
 L_plender_Lenders_Give_1 cur x more t70 t70n t70c t71 (IntKind.wrap IntKind.i64 (t72 + 1))
 (Heap.setN (Heap.setN h r 0 [int IntKind.i64 n, int IntKind.i64 n_1]) b (o + Int.toNat cur) [int IntKind.i64 n_6]) K)
 (Ret h K (int IntKind.i64 0))
theorem L_plender_Lenders_Give_1r (cur : Int) (x : Nat) (more : Option Nat) (t70 : Option Addr) (t70n : Nat) (t70c : Nat) (t71 : Int) (t72 : Int) (h : Heap) (K : Value → Heap → Prop) (k : L_plender_Lenders_Give_1T cur x more t70 t70n t70c t71 t72 h K) : L_plender_Lenders_Give_1 cur x more t70 t70n t70c t71 t72 h K :=
 LoopAt.of_ev (cs := []) Try.func33 mixed (fun junk => by kernel_rfl) k
def F_plender_Lenders_GiveT (x : Option Addr) (cur : Int) (parts : Option Addr) (partsn : Nat) (partsc : Nat) (h : Heap) (K : Value → Heap → Prop) : Prop :=
 newB h [pointer x] 48 fun (r : Nat) (h : Heap) =>
 ∃ (a : Option Addr),
 Heap.cell h r 0 = some (pointer a) ∧
 CallA Try.prog fn_plender_Lenders_has [pointer a, int IntKind.i64 cur] h fun (v : Value) (h : Heap) =>
 ∃ (b : Bool),
 v = Value.bool b ∧
 Br (!b) (Ret h K (int IntKind.i64 1))
 (CallA Try.prog fn_slices_ContainsFunc_lender_Part_lender_Part [slice parts partsn partsc, func (Fn.func fn_plender_Lenders_Give_1) #[] #[pointer (some { block := r, off := 0 })]] h fun (v : Value) (h : Heap) =>
 ∃ (b : Bool), v = Value.bool b ∧ Br b (Ret h K (int IntKind.i64 1)) (MNewA h fun (r_1 : Nat) (h : Heap) => L_plender_Lenders_Give_0 cur parts partsn partsc r (some r_1) parts partsn partsc (↑partsn : Int) 0 h K))
theorem F_plender_Lenders_Give (x : Option Addr) (cur : Int) (parts : Option Addr) (partsn : Nat) (partsc : Nat) (h : Heap) (K : Value → Heap → Prop) (k : F_plender_Lenders_GiveT x cur parts partsn partsc h K) : CallA Try.prog fn_plender_Lenders_Give [pointer x, int IntKind.i64 cur, slice parts partsn partsc] h K :=
 CallA.of_ev (cs := []) Try.func33 (by kernel_rfl) (fun _ _ => Try.call33 _ _) mixed (by kernel_rfl) (by kernel_rfl) k
def F_plender_Lenders_Give_1T (p_0 : Int) (p_1 : Int) (c0 : Nat) (h : Heap) (K : Value → Heap → Prop) : Prop :=
 newB h [int IntKind.i64 p_0, int IntKind.i64 p_1] 78 fun (r : Nat) (h : Heap) =>
 ∃ (a : Option Addr),
 Heap.cell h c0 0 = some (pointer a) ∧
 ∃ (n : Int),
 Heap.cell h r 0 = some (int IntKind.i64 n) ∧
 CallA Try.prog fn_plender_Lenders_known [pointer a, int IntKind.i64 n] h fun (v : Value) (h : Heap) =>
 ∃ (b : Bool), v = Value.bool b ∧ Br (!b) (Ret h K (Value.bool true)) (∃ (n : Int), Heap.cell h r 1 = some (int IntKind.i64 n) ∧ Ret h K (Value.bool (decide (n < 1))))
theorem F_plender_Lenders_Give_1 (p_0 : Int) (p_1 : Int) (c0 : Nat) (h : Heap) (K : Value → Heap → Prop) (k : F_plender_Lenders_Give_1T p_0 p_1 c0 h K) : CallA Try.prog fn_plender_Lenders_Give_1 [agg #[int IntKind.i64 p_0, int IntKind.i64 p_1], pointer (some { block := c0, off := 0 })] h K :=
 CallA.of_ev (cs := []) Try.func82 (by kernel_rfl) (fun _ _ => Try.call82 _ _) mixed (by kernel_rfl) (by kernel_rfl) k
def F_slices_ContainsFunc_lender_Part_lender_PartT (s : Option Addr) (sn : Nat) (sc : Nat) (fr0 : Nat) (h : Heap) (K : Value → Heap → Prop) : Prop :=
 CallA Try.prog fn_slices_IndexFunc_lender_Part_lender_Part [slice s sn sc, func (Fn.func fn_plender_Lenders_Give_1) #[] #[pointer (some { block := fr0, off := 0 })]] h fun (v : Value) (h : Heap) => ∃ (n : Int), v = int IntKind.i64 n ∧ Ret h K (Value.bool (decide (n ≥ 0)))
theorem F_slices_ContainsFunc_lender_Part_lender_Part (s : Option Addr) (sn : Nat) (sc : Nat) (fr0 : Nat) (h : Heap) (K : Value → Heap → Prop) (k : F_slices_ContainsFunc_lender_Part_lender_PartT s sn sc fr0 h K) : CallA Try.prog fn_slices_ContainsFunc_lender_Part_lender_Part [slice s sn sc, func (Fn.func fn_plender_Lenders_Give_1) #[] #[pointer (some { block := fr0, off := 0 })]] h K :=
 CallA.of_ev (cs := []) Try.func84 (by kernel_rfl) (fun _ _ => Try.call84 _ _) mixed (by kernel_rfl) (by kernel_rfl) k
def L_slices_IndexFunc_lender_Part_lender_Part_0 (s : Option Addr) (sn : Nat) (sc : Nat) (f_0 : Nat) (t7 : Int) (t8 : Int) (h : Heap) (K : Value → Heap → Prop) : Prop :=
 LoopAt Try.prog Try.f117 117 (loopK Try.f117 0) (sp 19 [(0, slice s sn sc), (1, func (Fn.func fn_plender_Lenders_Give_1) #[] #[pointer (some { block := f_0, off := 0 })]), (7, int IntKind.i64 t7), (8, int IntKind.i64 t8)]) h K
def L_slices_IndexFunc_lender_Part_lender_Part_0T (s : Option Addr) (sn : Nat) (sc : Nat) (f_0 : Nat) (t7 : Int) (t8 : Int) (h : Heap) (K : Value → Heap → Prop) : Prop :=
 Br (decide (t8 < t7))
 (0 ≤ t8 ∧
 t8 < (↑sn : Int) ∧
 withAddr s fun (b o : Nat) =>
 ∃ (n : Int),
 Heap.cell h b (o + Int.toNat t8 * 2) = some (int IntKind.i64 n) ∧
 ∃ (n_1 : Int),
 Heap.cell h b (o + Int.toNat t8 * 2 + 1) = some (int IntKind.i64 n_1) ∧
 CallA Try.prog fn_plender_Lenders_Give_1 [agg #[int IntKind.i64 n, int IntKind.i64 n_1], pointer (some { block := f_0, off := 0 })] h fun (v : Value) (h : Heap) =>
 ∃ (b : Bool), v = Value.bool b ∧ Br b (Ret h K (int IntKind.i64 t8)) (L_slices_IndexFunc_lender_Part_lender_Part_0 s sn sc f_0 t7 (IntKind.wrap IntKind.i64 (t8 + 1)) h K))
 (Ret h K (int IntKind.i64 (-1)))
theorem L_slices_IndexFunc_lender_Part_lender_Part_0r (s : Option Addr) (sn : Nat) (sc : Nat) (f_0 : Nat) (t7 : Int) (t8 : Int) (h : Heap) (K : Value → Heap → Prop) (k : L_slices_IndexFunc_lender_Part_lender_Part_0T s sn sc f_0 t7 t8 h K) : L_slices_IndexFunc_lender_Part_lender_Part_0 s sn sc f_0 t7 t8 h K :=
 LoopAt.of_ev (cs := []) Try.func117 mixed (fun junk => by kernel_rfl) k
def F_slices_IndexFunc_lender_Part_lender_PartT (s : Option Addr) (sn : Nat) (sc : Nat) (fr0 : Nat) (h : Heap) (K : Value → Heap → Prop) : Prop :=
 L_slices_IndexFunc_lender_Part_lender_Part_0 s sn sc fr0 (↑sn : Int) 0 h K
theorem F_slices_IndexFunc_lender_Part_lender_Part (s : Option Addr) (sn : Nat) (sc : Nat) (fr0 : Nat) (h : Heap) (K : Value → Heap → Prop) (k : F_slices_IndexFunc_lender_Part_lender_PartT s sn sc fr0 h K) : CallA Try.prog fn_slices_IndexFunc_lender_Part_lender_Part [slice s sn sc, func (Fn.func fn_plender_Lenders_Give_1) #[] #[pointer (some { block := fr0, off := 0 })]] h K :=
 CallA.of_ev (cs := []) Try.func117 (by kernel_rfl) (fun _ _ => Try.call117 _ _) mixed (by kernel_rfl) (by kernel_rfl) k
def L_lender_laid_0 (b : Option Addr) (bn : Nat) (bc : Nat) (t8 : Option Addr) (t8n : Nat) (t8c : Nat) (t9 : Int) (t10 : Int) (h : Heap) (K : Value → Heap → Prop) : Prop :=
 LoopAt Try.prog Try.f85 85 (loopK Try.f85 0) (sp 28 [(0, slice b bn bc), (8, slice t8 t8n t8c), (9, int IntKind.i64 t9), (10, int IntKind.i64 t10)]) h K
def L_lender_laid_1 (b : Option Addr) (bn : Nat) (bc : Nat) (n : Int) (i : Int) (t8 : Option Addr) (t8n : Nat) (t8c : Nat) (t9 : Int) (t10 : Int) (h : Heap) (K : Value → Heap → Prop) : Prop :=
 LoopAt Try.prog Try.f85 85 (loopK Try.f85 1) (sp 28 [(0, slice b bn bc), (6, int IntKind.i64 n), (7, int IntKind.i64 i), (8, slice t8 t8n t8c), (9, int IntKind.i64 t9), (10, int IntKind.i64 t10)]) h K
def L_lender_laid_0T (b : Option Addr) (bn : Nat) (bc : Nat) (t8 : Option Addr) (t8n : Nat) (t8c : Nat) (t9 : Int) (t10 : Int) (h : Heap) (K : Value → Heap → Prop) : Prop :=
 Br (decide (t10 < t9)) (0 ≤ t10 ∧ t10 < (↑t8n : Int) ∧ withAddr t8 fun (b_1 o : Nat) => ∃ (n : Int), Heap.cell h b_1 (o + Int.toNat t10) = some (int IntKind.i64 n) ∧ L_lender_laid_1 b bn bc n 7 t8 t8n t8c t9 t10 h K)
 (Ret h K (slice b bn bc))
theorem L_lender_laid_0r (b : Option Addr) (bn : Nat) (bc : Nat) (t8 : Option Addr) (t8n : Nat) (t8c : Nat) (t9 : Int) (t10 : Int) (h : Heap) (K : Value → Heap → Prop) (k : L_lender_laid_0T b bn bc t8 t8n t8c t9 t10 h K) : L_lender_laid_0 b bn bc t8 t8n t8c t9 t10 h K :=
 LoopAt.of_ev (cs := []) Try.func85 mixed (fun junk => by kernel_rfl) k
def L_lender_laid_1T (b : Option Addr) (bn : Nat) (bc : Nat) (n : Int) (i : Int) (t8 : Option Addr) (t8n : Nat) (t8c : Nat) (t9 : Int) (t10 : Int) (h : Heap) (K : Value → Heap → Prop) : Prop :=
 Br (decide (i ≥ 0))
 (Br (decide (0 ≤ IntKind.wrap IntKind.i64 (8 * i)))
 (newB h [int IntKind.u8 (IntKind.wrap IntKind.u8 (Int.fdiv n (2 ^ min (Int.toNat (IntKind.wrap IntKind.i64 (8 * i))) 64)))] 5 fun (r : Nat) (h : Heap) =>
 AppA [int IntKind.u8 0] 5 h b bn bc 1 (some { block := r, off := 0 }) fun (ap : Option Addr) (cp : Nat) (h : Heap) => L_lender_laid_1 ap (bn + 1) cp n (IntKind.wrap IntKind.i64 (i - 1)) t8 t8n t8c t9 t10 h K)
 False)
 (L_lender_laid_0 b bn bc t8 t8n t8c t9 (IntKind.wrap IntKind.i64 (t10 + 1)) h K)
theorem L_lender_laid_1r (b : Option Addr) (bn : Nat) (bc : Nat) (n : Int) (i : Int) (t8 : Option Addr) (t8n : Nat) (t8c : Nat) (t9 : Int) (t10 : Int) (h : Heap) (K : Value → Heap → Prop) (k : L_lender_laid_1T b bn bc n i t8 t8n t8c t9 t10 h K) : L_lender_laid_1 b bn bc n i t8 t8n t8c t9 t10 h K :=
 LoopAt.of_ev (cs := []) Try.func85 mixed (fun junk => by kernel_rfl) k
def F_lender_laidT (b : Option Addr) (bn : Nat) (bc : Nat) (l : Option Addr) (ln : Nat) (lc : Nat) (h : Heap) (K : Value → Heap → Prop) : Prop :=
 L_lender_laid_0 b bn bc l ln lc (↑ln : Int) 0 h K
theorem F_lender_laid (b : Option Addr) (bn : Nat) (bc : Nat) (l : Option Addr) (ln : Nat) (lc : Nat) (h : Heap) (K : Value → Heap → Prop) (k : F_lender_laidT b bn bc l ln lc h K) : CallA Try.prog fn_lender_laid [slice b bn bc, slice l ln lc] h K :=
 CallA.of_ev (cs := []) Try.func85 (by kernel_rfl) (fun _ _ => Try.call85 _ _) mixed (by kernel_rfl) (by kernel_rfl) k
def L_plender_Lenders_Text_0 (b : Option Addr) (bn : Nat) (bc : Nat) (t22 : Option Addr) (t22n : Nat) (t22c : Nat) (t23 : Int) (t24 : Int) (h : Heap) (K : Value → Heap → Prop) : Prop :=
 LoopAt Try.prog Try.f37 37 (loopK Try.f37 0) (sp 40 [(3, slice b bn bc), (22, slice t22 t22n t22c), (23, int IntKind.i64 t23), (24, int IntKind.i64 t24)]) h K
def L_plender_Lenders_Text_0T (b : Option Addr) (bn : Nat) (bc : Nat) (t22 : Option Addr) (t22n : Nat) (t22c : Nat) (t23 : Int) (t24 : Int) (h : Heap) (K : Value → Heap → Prop) : Prop :=
 Br (decide (t24 < t23))
 (0 ≤ t24 ∧
 t24 < (↑t22n : Int) ∧
 withAddr t22 fun (b_1 o : Nat) =>
 ∃ (a : Option Addr),
 ∃ (n : Nat),
 ∃ (m : Nat),
 Heap.cell h b_1 (o + Int.toNat t24 * 2) = some (slice a n m) ∧
 ∃ (b_2 : Bool),
 Heap.cell h b_1 (o + Int.toNat t24 * 2 + 1) = some (Value.bool b_2) ∧
 newB h [slice none 0 0, Value.bool false] 135 fun (r : Nat) (h : Heap) =>
 Heap.canSt h r 0 2 ∧
 ∃ (b_3 : Bool),
 Heap.cell (Heap.setN h r 0 [slice a n m, Value.bool b_2]) r 1 = some (Value.bool b_3) ∧
 Br b_3
 (∃ (a_1 : Option Addr),
 ∃ (n_1 : Nat),
 ∃ (m_1 : Nat),
 Heap.cell (Heap.setN h r 0 [slice a n m, Value.bool b_2]) r 0 = some (slice a_1 n_1 m_1) ∧
 newB (Heap.setN h r 0 [slice a n m, Value.bool b_2]) [int IntKind.u8 1] 5 fun (r_1 : Nat) (h : Heap) =>
 AppA [int IntKind.u8 0] 5 h b bn bc 1 (some { block := r_1, off := 0 }) fun (ap : Option Addr) (cp : Nat) (h_1 : Heap) =>
 (Heap.le h h_1 ∨ Keeps [r] h h_1) ∧
 CallA Try.prog fn_lender_laid [slice ap (bn + 1) cp, slice a_1 n_1 m_1] h_1 fun (v : Value) (h : Heap) =>
 ∃ (a : Option Addr), ∃ (n : Nat), ∃ (m : Nat), v = slice a n m ∧ L_plender_Lenders_Text_0 a n m t22 t22n t22c t23 (IntKind.wrap IntKind.i64 (t24 + 1)) h K)
 (∃ (a_1 : Option Addr),
 ∃ (n_1 : Nat),
 ∃ (m_1 : Nat),
 Heap.cell (Heap.setN h r 0 [slice a n m, Value.bool b_2]) r 0 = some (slice a_1 n_1 m_1) ∧
 newB (Heap.setN h r 0 [slice a n m, Value.bool b_2]) [int IntKind.u8 0] 5 fun (r_1 : Nat) (h : Heap) =>
 AppA [int IntKind.u8 0] 5 h b bn bc 1 (some { block := r_1, off := 0 }) fun (ap : Option Addr) (cp : Nat) (h_1 : Heap) =>
 (Heap.le h h_1 ∨ Keeps [r] h h_1) ∧
 CallA Try.prog fn_lender_laid [slice ap (bn + 1) cp, slice a_1 n_1 m_1] h_1 fun (v : Value) (h : Heap) =>
 ∃ (a : Option Addr), ∃ (n : Nat), ∃ (m : Nat), v = slice a n m ∧ L_plender_Lenders_Text_0 a n m t22 t22n t22c t23 (IntKind.wrap IntKind.i64 (t24 + 1)) h K))
 (StrA h b bn fun (s : ByteArray) => Ret h K (string s))
theorem L_plender_Lenders_Text_0r (b : Option Addr) (bn : Nat) (bc : Nat) (t22 : Option Addr) (t22n : Nat) (t22c : Nat) (t23 : Int) (t24 : Int) (h : Heap) (K : Value → Heap → Prop) (k : L_plender_Lenders_Text_0T b bn bc t22 t22n t22c t23 t24 h K) : L_plender_Lenders_Text_0 b bn bc t22 t22n t22c t23 t24 h K :=
 LoopAt.of_ev (cs := []) Try.func37 mixed (fun junk => by kernel_rfl) k
def F_plender_Lenders_TextT (x : Option Addr) (h : Heap) (K : Value → Heap → Prop) : Prop :=
 withAddr x fun (b o : Nat) =>
 ∃ (a : Option Addr),
 ∃ (n : Nat),
 ∃ (m : Nat),
 Heap.cell h b o = some (slice a n m) ∧
 withAddr x fun (b o : Nat) =>
 ∃ (n_1 : Int),
 Heap.cell h b (o + 1) = some (int IntKind.i64 n_1) ∧
 newB h [int IntKind.u8 (IntKind.wrap IntKind.u8 (↑n : Int)), int IntKind.u8 (IntKind.wrap IntKind.u8 n_1)] 5 fun (r : Nat) (h : Heap) =>
 withAddr x fun (b o : Nat) => ∃ (a : Option Addr), ∃ (n : Nat), ∃ (m : Nat), Heap.cell h b o = some (slice a n m) ∧ L_plender_Lenders_Text_0 (some { block := r, off := 0 }) 2 2 a n m (↑n : Int) 0 h K
theorem F_plender_Lenders_Text (x : Option Addr) (h : Heap) (K : Value → Heap → Prop) (k : F_plender_Lenders_TextT x h K) : CallA Try.prog fn_plender_Lenders_Text [pointer x] h K :=
 CallA.of_ev (cs := []) Try.func37 (by kernel_rfl) (fun _ _ => Try.call37 _ _) mixed (by kernel_rfl) (by kernel_rfl) k
def L_lender_Read_0 (text : ByteArray) (rest : Nat) (lines : Option Addr) (linesn : Nat) (linesc : Nat) (failed : Option Addr) (failedn : Nat) (failedc : Nat) (take_0 : Nat) (t37 : Int) (t38 : Int) (h : Heap) (K : Value → Heap → Prop) : Prop :=
 LoopAt Try.prog Try.f42 42 (loopK Try.f42 0) (sp 98 [(0, string text), (4, pointer (some { block := rest, off := 0 })), (5, slice lines linesn linesc), (6, slice failed failedn failedc), (7, func (Fn.func fn_lender_Read_1) #[] #[pointer (some { block := take_0, off := 0 })]),
 (37, int IntKind.i64 t37), (38, int IntKind.i64 t38)]) h K
def L_lender_Read_1 (text : ByteArray) (rest : Nat) (lines : Option Addr) (linesn : Nat) (linesc : Nat) (failed : Option Addr) (failedn : Nat) (failedc : Nat) (take_0 : Nat) (row : Option Addr) (rown : Nat) (rowc : Nat) (t37 : Int) (t38 : Int) (t56 : Int) (t57 : Int) (h : Heap) (K : Value → Heap → Prop) : Prop :=
 LoopAt Try.prog Try.f42 42 (loopK Try.f42 1) (sp 98 [(0, string text), (4, pointer (some { block := rest, off := 0 })), (5, slice lines linesn linesc), (6, slice failed failedn failedc), (7, func (Fn.func fn_lender_Read_1) #[] #[pointer (some { block := take_0, off := 0 })]),
 (8, slice row rown rowc), (37, int IntKind.i64 t37), (38, int IntKind.i64 t38), (56, int IntKind.i64 t56), (57, int IntKind.i64 t57)]) h K
def L_lender_Read_2 (x : Option Addr) (t81 : Option Addr) (t81n : Nat) (t81c : Nat) (t82 : Int) (t83 : Int) (h : Heap) (K : Value → Heap → Prop) : Prop :=
 LoopAt Try.prog Try.f42 42 (loopK Try.f42 2) (sp 98 [(10, pointer x), (81, slice t81 t81n t81c), (82, int IntKind.i64 t82), (83, int IntKind.i64 t83)]) h K
def L_lender_Read_0T (text : ByteArray) (rest : Nat) (lines : Option Addr) (linesn : Nat) (linesc : Nat) (failed : Option Addr) (failedn : Nat) (failedc : Nat) (take_0 : Nat) (t37 : Int) (t38 : Int) (h : Heap) (K : Value → Heap → Prop) : Prop :=
 Br (decide (t38 < t37))
 (∃ (s : ByteArray),
 Heap.cell h rest 0 = some (string s) ∧
 (0 : Int) ≤ 0 ∧
 ∃ (c : UInt8),
 s[0]? = some c ∧
 Br (decide ((↑(UInt8.toNat c) : Int) > 1)) (Ret h K (tuple #[pointer none, int IntKind.i64 2]))
 (∃ (s : ByteArray),
 Heap.cell h rest 0 = some (string s) ∧
 (0 : Int) ≤ 0 ∧
 ∃ (c : UInt8),
 s[0]? = some c ∧
 newB h [Value.bool ((↑(UInt8.toNat c) : Int) == 1)] 4 fun (r : Nat) (h : Heap) =>
 AppA [Value.bool false] 4 h failed failedn failedc 1 (some { block := r, off := 0 }) fun (ap : Option Addr) (cp : Nat) (h : Heap) =>
 ∃ (s : ByteArray),
 Heap.cell h rest 0 = some (string s) ∧
 (0 : Int) ≤ 1 ∧
 1 ≤ (↑(ByteArray.size s) : Int) ∧
 Heap.canSt h rest 0 1 ∧
 (0 : Int) ≤ 1 ∧
 ∃ (c : UInt8),
 text[1]? = some c ∧
 0 ≤ IntKind.wrap IntKind.i64 (↑(UInt8.toNat c) : Int) ∧
 IntKind.wrap IntKind.i64 (↑(UInt8.toNat c) : Int) ≤ IntKind.wrap IntKind.i64 (↑(UInt8.toNat c) : Int) ∧
 IntKind.wrap IntKind.i64 (↑(UInt8.toNat c) : Int) ≤ 281474976710656 ∧
 8 * IntKind.wrap IntKind.i64 (↑(UInt8.toNat c) : Int) ≤ 281474976710656 ∧
 newB (Heap.setN h rest 0 [string (ByteArray.extract s 1 (ByteArray.size s))]) (repL (Int.toNat (IntKind.wrap IntKind.i64 (↑(UInt8.toNat c) : Int))) [int IntKind.i64 0])
 2 fun (r : Nat) (h : Heap) =>
 L_lender_Read_1 text rest lines linesn linesc ap (failedn + 1) cp take_0 (some { block := r, off := 0 }) (Int.toNat (IntKind.wrap IntKind.i64 (↑(UInt8.toNat c) : Int)))
 (Int.toNat (IntKind.wrap IntKind.i64 (↑(UInt8.toNat c) : Int))) t37 t38 (↑(Int.toNat (IntKind.wrap IntKind.i64 (↑(UInt8.toNat c) : Int))) : Int) 0 h K))
 ((0 : Int) ≤ 1 ∧
 ∃ (c : UInt8),
 text[1]? = some c ∧
 CallA Try.prog fn_lender_New [slice lines linesn linesc, int IntKind.i64 (IntKind.wrap IntKind.i64 (↑(UInt8.toNat c) : Int))] h fun (v : Value) (h : Heap) =>
 ∃ (a : Option Addr), ∃ (n : Int), v = tuple #[pointer a, int IntKind.i64 n] ∧ Br (n != 0) (Ret h K (tuple #[pointer none, int IntKind.i64 2])) (L_lender_Read_2 a failed failedn failedc (↑failedn : Int) 0 h K))
theorem L_lender_Read_0r (text : ByteArray) (rest : Nat) (lines : Option Addr) (linesn : Nat) (linesc : Nat) (failed : Option Addr) (failedn : Nat) (failedc : Nat) (take_0 : Nat) (t37 : Int) (t38 : Int) (h : Heap) (K : Value → Heap → Prop) (k : L_lender_Read_0T text rest lines linesn linesc failed failedn failedc take_0 t37 t38 h K) : L_lender_Read_0 text rest lines linesn linesc failed failedn failedc take_0 t37 t38 h K :=
 LoopAt.of_ev (cs := []) Try.func42 mixed (fun junk => by kernel_rfl) k
def L_lender_Read_1T (text : ByteArray) (rest : Nat) (lines : Option Addr) (linesn : Nat) (linesc : Nat) (failed : Option Addr) (failedn : Nat) (failedc : Nat) (take_0 : Nat) (row : Option Addr) (rown : Nat) (rowc : Nat) (t37 : Int) (t38 : Int) (t56 : Int) (t57 : Int) (h : Heap) (K : Value → Heap → Prop) : Prop :=
 Br (decide (t57 < t56))
 (CallA Try.prog fn_lender_Read_1 [pointer (some { block := take_0, off := 0 })] h fun (v : Value) (h : Heap) =>
 ∃ (n : Int),
 v = int IntKind.i64 n ∧
 0 ≤ t57 ∧
 t57 < (↑rown : Int) ∧
 withAddr row fun (b o : Nat) =>
 Heap.canSt h b (o + Int.toNat t57) 1 ∧
 L_lender_Read_1 text rest lines linesn linesc failed failedn failedc take_0 row rown rowc t37 t38 t56 (IntKind.wrap IntKind.i64 (t57 + 1)) (Heap.setN h b (o + Int.toNat t57) [int IntKind.i64 n]) K)
 (newB h [slice row rown rowc] 36 fun (r : Nat) (h : Heap) =>
 AppA [slice none 0 0] 36 h lines linesn linesc 1 (some { block := r, off := 0 }) fun (ap : Option Addr) (cp : Nat) (h : Heap) =>
 L_lender_Read_0 text rest ap (linesn + 1) cp failed failedn failedc take_0 t37 (IntKind.wrap IntKind.i64 (t38 + 1)) h K)
theorem L_lender_Read_1r (text : ByteArray) (rest : Nat) (lines : Option Addr) (linesn : Nat) (linesc : Nat) (failed : Option Addr) (failedn : Nat) (failedc : Nat) (take_0 : Nat) (row : Option Addr) (rown : Nat) (rowc : Nat) (t37 : Int) (t38 : Int) (t56 : Int) (t57 : Int) (h : Heap) (K : Value → Heap → Prop) (k : L_lender_Read_1T text rest lines linesn linesc failed failedn failedc take_0 row rown rowc t37 t38 t56 t57 h K) : L_lender_Read_1 text rest lines linesn linesc failed failedn failedc take_0 row rown rowc t37 t38 t56 t57 h K :=
 LoopAt.of_ev (cs := []) Try.func42 mixed (fun junk => by kernel_rfl) k
def L_lender_Read_2T (x : Option Addr) (t81 : Option Addr) (t81n : Nat) (t81c : Nat) (t82 : Int) (t83 : Int) (h : Heap) (K : Value → Heap → Prop) : Prop :=
 Br (decide (t83 < t82))
 (0 ≤ t83 ∧
 t83 < (↑t81n : Int) ∧
 withAddr t81 fun (b o : Nat) =>
 ∃ (b_1 : Bool),
 Heap.cell h b (o + Int.toNat t83) = some (Value.bool b_1) ∧
 withAddr x fun (b o : Nat) =>
 ∃ (a : Option Addr),
 ∃ (n : Nat),
 ∃ (m : Nat),
 Heap.cell h b o = some (slice a n m) ∧
 0 ≤ t83 ∧
 t83 < (↑n : Int) ∧
 withAddr a fun (b o : Nat) =>
 Heap.canSt h b (o + Int.toNat t83 * 2 + 1) 1 ∧ L_lender_Read_2 x t81 t81n t81c t82 (IntKind.wrap IntKind.i64 (t83 + 1)) (Heap.setN h b (o + Int.toNat t83 * 2 + 1) [Value.bool b_1]) K)
 (Ret h K (tuple #[pointer x, int IntKind.i64 0]))
theorem L_lender_Read_2r (x : Option Addr) (t81 : Option Addr) (t81n : Nat) (t81c : Nat) (t82 : Int) (t83 : Int) (h : Heap) (K : Value → Heap → Prop) (k : L_lender_Read_2T x t81 t81n t81c t82 t83 h K) : L_lender_Read_2 x t81 t81n t81c t82 t83 h K :=
 LoopAt.of_ev (cs := []) Try.func42 mixed (fun junk => by kernel_rfl) k
def F_lender_ReadT (text : ByteArray) (h : Heap) (K : Value → Heap → Prop) : Prop :=
 Br (decide ((↑(ByteArray.size text) : Int) < 2)) (Ret h K (tuple #[pointer none, int IntKind.i64 2]))
 ((0 : Int) ≤ 0 ∧
 ∃ (c : UInt8),
 text[0]? = some c ∧
 (0 : Int) ≤ 1 ∧
 ∃ (c_1 : UInt8),
 text[1]? = some c_1 ∧
 Br
 ((↑(ByteArray.size text) : Int) !=
 IntKind.wrap IntKind.i64
 (2 + IntKind.wrap IntKind.i64 (IntKind.wrap IntKind.i64 (↑(UInt8.toNat c) : Int) * IntKind.wrap IntKind.i64 (1 + IntKind.wrap IntKind.i64 (8 * IntKind.wrap IntKind.i64 (↑(UInt8.toNat c_1) : Int))))))
 (Ret h K (tuple #[pointer none, int IntKind.i64 2]))
 ((0 : Int) ≤ 2 ∧
 2 ≤ (↑(ByteArray.size text) : Int) ∧
 newB h [string { data := #[] }] 9 fun (r : Nat) (h : Heap) =>
 Heap.canSt h r 0 1 ∧
 (0 : Int) ≤ 0 ∧
 ∃ (c : UInt8),
 text[0]? = some c ∧ L_lender_Read_0 text r none 0 0 none 0 0 r (IntKind.wrap IntKind.i64 (↑(UInt8.toNat c) : Int)) 0 (Heap.setN h r 0 [string (ByteArray.extract text 2 (ByteArray.size text))]) K))
theorem F_lender_Read (text : ByteArray) (h : Heap) (K : Value → Heap → Prop) (k : F_lender_ReadT text h K) : CallA Try.prog fn_lender_Read [string text] h K :=
 CallA.of_ev (cs := []) Try.func42 (by kernel_rfl) (fun _ _ => Try.call42 _ _) mixed (by kernel_rfl) (by kernel_rfl) k
def L_lender_Read_1_0 (t0 : Nat) (n : Int) (t7 : Option Addr) (t7n : Nat) (t7c : Nat) (t8 : Int) (t9 : Int) (h : Heap) (K : Value → Heap → Prop) : Prop :=
 LoopAt Try.prog Try.f86 86 (loopK Try.f86 0) (sp 22 [(0, pointer (some { block := t0, off := 0 })), (2, int IntKind.i64 n), (7, slice t7 t7n t7c), (8, int IntKind.i64 t8), (9, int IntKind.i64 t9)]) h K
def L_lender_Read_1_0T (t0 : Nat) (n : Int) (t7 : Option Addr) (t7n : Nat) (t7c : Nat) (t8 : Int) (t9 : Int) (h : Heap) (K : Value → Heap → Prop) : Prop :=
 Br (decide (t9 < t8))
 (0 ≤ t9 ∧
 t9 < (↑t7n : Int) ∧
 withAddr t7 fun (b o : Nat) =>
 ∃ (n_1 : Int),
 Heap.cell h b (o + Int.toNat t9) = some (int IntKind.u8 n_1) ∧
 L_lender_Read_1_0 t0 (IntKind.wrap IntKind.i64 (↑(BitVec.toNat (BitVec.ofInt 64 (IntKind.wrap IntKind.i64 (n * 256)) ||| BitVec.ofInt 64 (IntKind.wrap IntKind.i64 n_1))) : Int)) t7 t7n t7c t8
 (IntKind.wrap IntKind.i64 (t9 + 1)) h K)
 (∃ (s : ByteArray), Heap.cell h t0 0 = some (string s) ∧ (0 : Int) ≤ 8 ∧ 8 ≤ (↑(ByteArray.size s) : Int) ∧ Heap.canSt h t0 0 1 ∧ Ret (Heap.setN h t0 0 [string (ByteArray.extract s 8 (ByteArray.size s))]) K (int IntKind.i64 n))
theorem L_lender_Read_1_0r (t0 : Nat) (n : Int) (t7 : Option Addr) (t7n : Nat) (t7c : Nat) (t8 : Int) (t9 : Int) (h : Heap) (K : Value → Heap → Prop) (k : L_lender_Read_1_0T t0 n t7 t7n t7c t8 t9 h K) : L_lender_Read_1_0 t0 n t7 t7n t7c t8 t9 h K :=
 LoopAt.of_ev (cs := []) Try.func86 mixed (fun junk => by kernel_rfl) k
def F_lender_Read_1T (c0 : Nat) (h : Heap) (K : Value → Heap → Prop) : Prop :=
 ∃ (s : ByteArray),
 Heap.cell h c0 0 = some (string s) ∧
 (0 : Int) ≤ 8 ∧
 8 ≤ (↑(ByteArray.size s) : Int) ∧
 BytesA (ByteArray.extract s 0 8) 5 h fun (ap : Option Addr) (cp : Nat) (h : Heap) => L_lender_Read_1_0 c0 0 ap (ByteArray.size (ByteArray.extract s 0 8)) cp (↑(ByteArray.size (ByteArray.extract s 0 8)) : Int) 0 h K
theorem F_lender_Read_1 (c0 : Nat) (h : Heap) (K : Value → Heap → Prop) (k : F_lender_Read_1T c0 h K) : CallA Try.prog fn_lender_Read_1 [pointer (some { block := c0, off := 0 })] h K :=
 CallA.of_ev (cs := []) Try.func86 (by kernel_rfl) (fun _ _ => Try.call86 _ _) mixed (by kernel_rfl) (by kernel_rfl) k
end Go.Proofs.Ytkcogdmddhkldaa
