import Derived.Test.YtkcogdmddhkldaaEqN
namespace Go.Proofs.Ytkcogdmddhkldaa
open Go Go.Sy Go.Value
set_option linter.unusedVariables false
set_option maxRecDepth 100000
def L_law14_InoutKeeps_0 (t : Option Addr) (tn : Nat) (tc : Nat) (net : Option Addr) (netn : Nat) (netc : Nat) (least : Int) (l : Option Addr) (ln : Nat) (lc : Nat) (n : Option Addr) (nn : Nat) (nc : Nat) (t50 : Int) (t51 : Int) (h : Heap) (K : Value → Heap → Prop) : Prop :=
 LoopAt Try.prog Try.f4 4 (loopK Try.f4 0) (sp 176 [(0, slice t tn tc), (1, slice net netn netc), (2, int IntKind.i64 least), (7, slice l ln lc), (8, slice n nn nc), (50, int IntKind.i64 t50), (51, int IntKind.i64 t51)]) h K
def L_law14_InoutKeeps_1 (net : Option Addr) (netn : Nat) (netc : Nat) (least : Int) (l : Option Addr) (ln : Nat) (lc : Nat) (n : Option Addr) (nn : Nat) (nc : Nat) (t67 : Int) (t68 : Int) (h : Heap) (K : Value → Heap → Prop) : Prop :=
 LoopAt Try.prog Try.f4 4 (loopK Try.f4 1) (sp 176 [(1, slice net netn netc), (2, int IntKind.i64 least), (7, slice l ln lc), (8, slice n nn nc), (67, int IntKind.i64 t67), (68, int IntKind.i64 t68)]) h K
def L_law14_InoutKeeps_2 (net : Option Addr) (netn : Nat) (netc : Nat) (least : Int) (l : Option Addr) (ln : Nat) (lc : Nat) (n : Option Addr) (nn : Nat) (nc : Nat) (c : Int) (t67 : Int) (t68 : Int) (t92 : Int) (t93 : Int) (h : Heap) (K : Value → Heap → Prop) : Prop :=
 LoopAt Try.prog Try.f4 4 (loopK Try.f4 2) (sp 176 [(1, slice net netn netc), (2, int IntKind.i64 least), (7, slice l ln lc), (8, slice n nn nc), (11, int IntKind.i64 c), (67, int IntKind.i64 t67), (68, int IntKind.i64 t68), (92, int IntKind.i64 t92),
 (93, int IntKind.i64 t93)]) h K
def L_law14_InoutKeeps_3 (least : Int) (t148 : Option Addr) (t148n : Nat) (t148c : Nat) (t149 : Int) (t150 : Int) (h : Heap) (K : Value → Heap → Prop) : Prop :=
 LoopAt Try.prog Try.f4 4 (loopK Try.f4 3) (sp 176 [(2, int IntKind.i64 least), (148, slice t148 t148n t148c), (149, int IntKind.i64 t149), (150, int IntKind.i64 t150)]) h K
def L_law14_InoutKeeps_0T (t : Option Addr) (tn : Nat) (tc : Nat) (net : Option Addr) (netn : Nat) (netc : Nat) (least : Int) (l : Option Addr) (ln : Nat) (lc : Nat) (n : Option Addr) (nn : Nat) (nc : Nat) (t50 : Int) (t51 : Int) (h : Heap) (K : Value → Heap → Prop) : Prop :=
 Br (decide (t51 < t50))
 (0 ≤ t51 ∧
 t51 < (↑nn : Int) ∧
 withAddr n fun (b o : Nat) =>
 ∃ (a : Option Addr),
 ∃ (n_1 : Nat),
 ∃ (m : Nat),
 Heap.cell h b (o + Int.toNat t51) = some (slice a n_1 m) ∧
 0 ≤ t51 ∧
 t51 < (↑netn : Int) ∧
 withAddr net fun (b o : Nat) =>
 ∃ (a : Option Addr),
 ∃ (n_2 : Nat),
 ∃ (m : Nat),
 Heap.cell h b (o + Int.toNat t51) = some (slice a n_2 m) ∧
 Br ((↑n_1 : Int) != (↑n_2 : Int)) (Ret h K (Value.bool false)) (L_law14_InoutKeeps_0 t tn tc net netn netc least l ln lc n nn nc t50 (IntKind.wrap IntKind.i64 (t51 + 1)) h K))
 (L_law14_InoutKeeps_1 net netn netc least l ln lc n nn nc (↑tn : Int) 0 h K)
theorem L_law14_InoutKeeps_0r (t : Option Addr) (tn : Nat) (tc : Nat) (net : Option Addr) (netn : Nat) (netc : Nat) (least : Int) (l : Option Addr) (ln : Nat) (lc : Nat) (n : Option Addr) (nn : Nat) (nc : Nat) (t50 : Int) (t51 : Int) (h : Heap) (K : Value → Heap → Prop) (k : L_law14_InoutKeeps_0T t tn tc net netn netc least l ln lc n nn nc t50 t51 h K) : L_law14_InoutKeeps_0 t tn tc net netn netc least l ln lc n nn nc t50 t51 h K :=
 LoopAt.of_ev (cs := []) Try.func4 mixed (fun junk => by kernel_rfl) k
def L_law14_InoutKeeps_1T (net : Option Addr) (netn : Nat) (netc : Nat) (least : Int) (l : Option Addr) (ln : Nat) (lc : Nat) (n : Option Addr) (nn : Nat) (nc : Nat) (t67 : Int) (t68 : Int) (h : Heap) (K : Value → Heap → Prop) : Prop :=
 Br (decide (t68 < t67))
 (CallA Try.prog fn_law14_total [slice net netn netc, int IntKind.i64 t68] h fun (v : Value) (h : Heap) =>
 ∃ (n_1 : Int),
 ∃ (n_2 : Int),
 v = tuple #[int IntKind.i64 n_1, int IntKind.i64 n_2] ∧
 CallA Try.prog fn_law14_total [slice n nn nc, int IntKind.i64 t68] h fun (v : Value) (h : Heap) =>
 ∃ (n_3 : Int),
 ∃ (n_4 : Int),
 v = tuple #[int IntKind.i64 n_3, int IntKind.i64 n_4] ∧
 Br (n_2 != n_4) (Ret h K (Value.bool false)) (Br (n_1 != n_3) (Ret h K (Value.bool false)) (L_law14_InoutKeeps_2 net netn netc least l ln lc n nn nc t68 t67 t68 (↑nn : Int) 0 h K)))
 (L_law14_InoutKeeps_3 least l ln lc (↑ln : Int) 0 h K)
theorem L_law14_InoutKeeps_1r (net : Option Addr) (netn : Nat) (netc : Nat) (least : Int) (l : Option Addr) (ln : Nat) (lc : Nat) (n : Option Addr) (nn : Nat) (nc : Nat) (t67 : Int) (t68 : Int) (h : Heap) (K : Value → Heap → Prop) (k : L_law14_InoutKeeps_1T net netn netc least l ln lc n nn nc t67 t68 h K) : L_law14_InoutKeeps_1 net netn netc least l ln lc n nn nc t67 t68 h K :=
 LoopAt.of_ev (cs := []) Try.func4 mixed (fun junk => by kernel_rfl) k
def L_law14_InoutKeeps_2T (net : Option Addr) (netn : Nat) (netc : Nat) (least : Int) (l : Option Addr) (ln : Nat) (lc : Nat) (n : Option Addr) (nn : Nat) (nc : Nat) (c : Int) (t67 : Int) (t68 : Int) (t92 : Int) (t93 : Int) (h : Heap) (K : Value → Heap → Prop) : Prop :=
 Br (decide (t93 < t92))
 (0 ≤ t93 ∧
 t93 < (↑netn : Int) ∧
 withAddr net fun (b o : Nat) =>
 ∃ (a : Option Addr),
 ∃ (n_1 : Nat),
 ∃ (m : Nat),
 Heap.cell h b (o + Int.toNat t93) = some (slice a n_1 m) ∧
 0 ≤ c ∧
 c < (↑n_1 : Int) ∧
 withAddr a fun (b o : Nat) =>
 ∃ (n_2 : Int),
 Heap.cell h b (o + Int.toNat c) = some (int IntKind.i64 n_2) ∧
 0 ≤ t93 ∧
 t93 < (↑nn : Int) ∧
 withAddr n fun (b o : Nat) =>
 ∃ (a : Option Addr),
 ∃ (n_3 : Nat),
 ∃ (m : Nat),
 Heap.cell h b (o + Int.toNat t93) = some (slice a n_3 m) ∧
 0 ≤ c ∧
 c < (↑n_3 : Int) ∧
 withAddr a fun (b o : Nat) =>
 ∃ (n_4 : Int),
 Heap.cell h b (o + Int.toNat c) = some (int IntKind.i64 n_4) ∧
 Br (decide (c > 0))
 (Br (decide (n_2 > 0))
 (Br (decide (n_4 < 0)) (Ret h K (Value.bool false))
 (Br (decide (n_4 > n_2)) (Ret h K (Value.bool false))
 (Br (decide (n_2 < 0))
 (Br (decide (n_4 > 0)) (Ret h K (Value.bool false))
 (Br (decide (n_4 < n_2)) (Ret h K (Value.bool false))
 (Br (n_2 == 0)
 (Br (n_4 != 0) (Ret h K (Value.bool false)) (L_law14_InoutKeeps_2 net netn netc least l ln lc n nn nc c t67 t68 t92 (IntKind.wrap IntKind.i64 (t93 + 1)) h K))
 (L_law14_InoutKeeps_2 net netn netc least l ln lc n nn nc c t67 t68 t92 (IntKind.wrap IntKind.i64 (t93 + 1)) h K))))
 (Br (n_2 == 0) (Br (n_4 != 0) (Ret h K (Value.bool false)) (L_law14_InoutKeeps_2 net netn netc least l ln lc n nn nc c t67 t68 t92 (IntKind.wrap IntKind.i64 (t93 + 1)) h K))
 (L_law14_InoutKeeps_2 net netn netc least l ln lc n nn nc c t67 t68 t92 (IntKind.wrap IntKind.i64 (t93 + 1)) h K)))))
 (Br (decide (n_2 < 0))
 (Br (decide (n_4 > 0)) (Ret h K (Value.bool false))
 (Br (decide (n_4 < n_2)) (Ret h K (Value.bool false))
 (Br (n_2 == 0) (Br (n_4 != 0) (Ret h K (Value.bool false)) (L_law14_InoutKeeps_2 net netn netc least l ln lc n nn nc c t67 t68 t92 (IntKind.wrap IntKind.i64 (t93 + 1)) h K))
 (L_law14_InoutKeeps_2 net netn netc least l ln lc n nn nc c t67 t68 t92 (IntKind.wrap IntKind.i64 (t93 + 1)) h K))))
 (Br (n_2 == 0) (Br (n_4 != 0) (Ret h K (Value.bool false)) (L_law14_InoutKeeps_2 net netn netc least l ln lc n nn nc c t67 t68 t92 (IntKind.wrap IntKind.i64 (t93 + 1)) h K))
 (L_law14_InoutKeeps_2 net netn netc least l ln lc n nn nc c t67 t68 t92 (IntKind.wrap IntKind.i64 (t93 + 1)) h K))))
 (L_law14_InoutKeeps_2 net netn netc least l ln lc n nn nc c t67 t68 t92 (IntKind.wrap IntKind.i64 (t93 + 1)) h K))
 (L_law14_InoutKeeps_1 net netn netc least l ln lc n nn nc t67 (IntKind.wrap IntKind.i64 (t68 + 1)) h K)
theorem L_law14_InoutKeeps_2r (net : Option Addr) (netn : Nat) (netc : Nat) (least : Int) (l : Option Addr) (ln : Nat) (lc : Nat) (n : Option Addr) (nn : Nat) (nc : Nat) (c : Int) (t67 : Int) (t68 : Int) (t92 : Int) (t93 : Int) (h : Heap) (K : Value → Heap → Prop) (k : L_law14_InoutKeeps_2T net netn netc least l ln lc n nn nc c t67 t68 t92 t93 h K) : L_law14_InoutKeeps_2 net netn netc least l ln lc n nn nc c t67 t68 t92 t93 h K :=
 LoopAt.of_ev (cs := []) Try.func4 mixed (fun junk => by kernel_rfl) k
def L_law14_InoutKeeps_3T (least : Int) (t148 : Option Addr) (t148n : Nat) (t148c : Nat) (t149 : Int) (t150 : Int) (h : Heap) (K : Value → Heap → Prop) : Prop :=
 Br (decide (t150 < t149))
 (0 ≤ t150 ∧
 t150 < (↑t148n : Int) ∧
 withAddr t148 fun (b o : Nat) =>
 ∃ (n : Int),
 Heap.cell h b (o + Int.toNat t150 * 5) = some (int IntKind.i64 n) ∧
 ∃ (n_1 : Int),
 Heap.cell h b (o + Int.toNat t150 * 5 + 1) = some (int IntKind.i64 n_1) ∧
 ∃ (n_2 : Int),
 Heap.cell h b (o + Int.toNat t150 * 5 + 2) = some (int IntKind.i64 n_2) ∧
 ∃ (n_3 : Int),
 Heap.cell h b (o + Int.toNat t150 * 5 + 3) = some (int IntKind.i64 n_3) ∧
 ∃ (n_4 : Int),
 Heap.cell h b (o + Int.toNat t150 * 5 + 4) = some (int IntKind.i64 n_4) ∧
 newB h [int IntKind.i64 0, int IntKind.i64 0, int IntKind.i64 0, int IntKind.i64 0, int IntKind.i64 0] 41 fun (r : Nat) (h : Heap) =>
 Heap.canSt h r 0 5 ∧
 ∃ (n_5 : Int),
 Heap.cell (Heap.setN h r 0 [int IntKind.i64 n, int IntKind.i64 n_1, int IntKind.i64 n_2, int IntKind.i64 n_3, int IntKind.i64 n_4]) r 3 = some (int IntKind.i64 n_5) ∧
 Br (decide (n_5 < least)) (Ret (Heap.setN h r 0 [int IntKind.i64 n, int IntKind.i64 n_1, int IntKind.i64 n_2, int IntKind.i64 n_3, int IntKind.i64 n_4]) K (Value.bool false))
 (∃ (n_6 : Int),
 Heap.cell (Heap.setN h r 0 [int IntKind.i64 n, int IntKind.i64 n_1, int IntKind.i64 n_2, int IntKind.i64 n_3, int IntKind.i64 n_4]) r 0 = some (int IntKind.i64 n_6) ∧
 ∃ (n_7 : Int),
 Heap.cell (Heap.setN h r 0 [int IntKind.i64 n, int IntKind.i64 n_1, int IntKind.i64 n_2, int IntKind.i64 n_3, int IntKind.i64 n_4]) r 1 = some (int IntKind.i64 n_7) ∧
 Br (n_6 == n_7) (Ret (Heap.setN h r 0 [int IntKind.i64 n, int IntKind.i64 n_1, int IntKind.i64 n_2, int IntKind.i64 n_3, int IntKind.i64 n_4]) K (Value.bool false))
 (∃ (n_8 : Int),
 Heap.cell (Heap.setN h r 0 [int IntKind.i64 n, int IntKind.i64 n_1, int IntKind.i64 n_2, int IntKind.i64 n_3, int IntKind.i64 n_4]) r 2 = some (int IntKind.i64 n_8) ∧
 Br (decide (n_8 < 1))
 (Ret (Heap.setN h r 0 [int IntKind.i64 n, int IntKind.i64 n_1, int IntKind.i64 n_2, int IntKind.i64 n_3, int IntKind.i64 n_4]) K (Value.bool false))
 (∃ (n_9 : Int),
 Heap.cell (Heap.setN h r 0 [int IntKind.i64 n, int IntKind.i64 n_1, int IntKind.i64 n_2, int IntKind.i64 n_3, int IntKind.i64 n_4]) r 4 =
 some (int IntKind.i64 n_9) ∧
 Br (decide (n_9 < 0))
 (Ret (Heap.setN h r 0 [int IntKind.i64 n, int IntKind.i64 n_1, int IntKind.i64 n_2, int IntKind.i64 n_3, int IntKind.i64 n_4]) K (Value.bool false))
 (L_law14_InoutKeeps_3 least t148 t148n t148c t149 (IntKind.wrap IntKind.i64 (t150 + 1))
 (Heap.setN h r 0 [int IntKind.i64 n, int IntKind.i64 n_1, int IntKind.i64 n_2, int IntKind.i64 n_3, int IntKind.i64 n_4]) K)))))
 (Ret h K (Value.bool true))
theorem L_law14_InoutKeeps_3r (least : Int) (t148 : Option Addr) (t148n : Nat) (t148c : Nat) (t149 : Int) (t150 : Int) (h : Heap) (K : Value → Heap → Prop) (k : L_law14_InoutKeeps_3T least t148 t148n t148c t149 t150 h K) : L_law14_InoutKeeps_3 least t148 t148n t148c t149 t150 h K :=
 LoopAt.of_ev (cs := []) Try.func4 mixed (fun junk => by kernel_rfl) k
def F_law14_InoutKeepsT (t : Option Addr) (tn : Nat) (tc : Nat) (net : Option Addr) (netn : Nat) (netc : Nat) (least : Int) (h : Heap) (K : Value → Heap → Prop) : Prop :=
 CallA Try.prog fn_law14_awake [] h fun (v : Value) (h : Heap) =>
 ∃ (b : Bool),
 v = Value.bool b ∧
 Br (!b) (Ret h K (Value.bool false))
 (CallA Try.prog fn_law14_large [slice t tn tc, slice net netn netc] h fun (v : Value) (h : Heap) =>
 ∃ (b : Bool),
 v = Value.bool b ∧
 Br b (Ret h K (Value.bool true))
 (CallA Try.prog fn_inout_Propose [slice t tn tc, slice net netn netc, int IntKind.i64 least] h fun (v : Value) (h : Heap) =>
 ∃ (a : Option Addr),
 ∃ (n : Nat),
 ∃ (m : Nat),
 ∃ (a_1 : Option Addr),
 ∃ (n_1 : Nat),
 ∃ (m_1 : Nat),
 ∃ (n_2 : Int),
 v = tuple #[slice a n m, slice a_1 n_1 m_1, int IntKind.i64 n_2] ∧
 Br (n_2 != 0) (Br ((↑n : Int) == 0) (Ret h K (Value.bool ((↑n_1 : Int) == 0))) (Ret h K (Value.bool false)))
 (Br ((↑n_1 : Int) != (↑netn : Int)) (Ret h K (Value.bool false)) (L_law14_InoutKeeps_0 t tn tc net netn netc least a n m a_1 n_1 m_1 (↑n_1 : Int) 0 h K))))
theorem F_law14_InoutKeeps (t : Option Addr) (tn : Nat) (tc : Nat) (net : Option Addr) (netn : Nat) (netc : Nat) (least : Int) (h : Heap) (K : Value → Heap → Prop) (k : F_law14_InoutKeepsT t tn tc net netn netc least h K) : CallA Try.prog fn_law14_InoutKeeps [slice t tn tc, slice net netn netc, int IntKind.i64 least] h K :=
 CallA.of_ev (cs := []) Try.func4 (by kernel_rfl) (fun _ _ => Try.call4 _ _) mixed (by kernel_rfl) (by kernel_rfl) k
def L_law14_InoutClears_0 (t : Option Addr) (tn : Nat) (tc : Nat) (net : Option Addr) (netn : Nat) (netc : Nat) (n : Option Addr) (nn : Nat) (nc : Nat) (c : Int) (h : Heap) (K : Value → Heap → Prop) : Prop :=
 LoopAt Try.prog Try.f5 5 (loopK Try.f5 0) (sp 110 [(0, slice t tn tc), (1, slice net netn netc), (6, slice n nn nc), (8, int IntKind.i64 c)]) h K
def L_law14_InoutClears_1 (t : Option Addr) (tn : Nat) (tc : Nat) (net : Option Addr) (netn : Nat) (netc : Nat) (n : Option Addr) (nn : Nat) (nc : Nat) (c : Int) (sum : Int) (f : Int) (t43 : Int) (t44 : Int) (h : Heap) (K : Value → Heap → Prop) : Prop :=
 LoopAt Try.prog Try.f5 5 (loopK Try.f5 1) (sp 110 [(0, slice t tn tc), (1, slice net netn netc), (6, slice n nn nc), (8, int IntKind.i64 c), (9, int IntKind.i64 sum), (10, int IntKind.i64 f), (43, int IntKind.i64 t43), (44, int IntKind.i64 t44)]) h K
def L_law14_InoutClears_2 (n : Option Addr) (nn : Nat) (nc : Nat) (k' : Option Addr) (k'n : Nat) (k'c : Nat) (t95 : Int) (t96 : Int) (h : Heap) (K : Value → Heap → Prop) : Prop :=
 LoopAt Try.prog Try.f5 5 (loopK Try.f5 2) (sp 110 [(6, slice n nn nc), (13, slice k' k'n k'c), (95, int IntKind.i64 t95), (96, int IntKind.i64 t96)]) h K
def L_law14_InoutClears_0T (t : Option Addr) (tn : Nat) (tc : Nat) (net : Option Addr) (netn : Nat) (netc : Nat) (n : Option Addr) (nn : Nat) (nc : Nat) (c : Int) (h : Heap) (K : Value → Heap → Prop) : Prop :=
 Br (decide (c < (↑tn : Int)))
 (CallA Try.prog fn_law14_total [slice net netn netc, int IntKind.i64 c] h fun (v : Value) (h : Heap) =>
 ∃ (n_1 : Int), ∃ (n_2 : Int), v = tuple #[int IntKind.i64 n_1, int IntKind.i64 n_2] ∧ L_law14_InoutClears_1 t tn tc net netn netc n nn nc c n_1 n_2 (↑nn : Int) 0 h K)
 (CallA Try.prog fn_inout_Propose [slice t tn tc, slice n nn nc, int IntKind.i64 1] h fun (v : Value) (h : Heap) =>
 ∃ (a : Option Addr),
 ∃ (n_1 : Nat),
 ∃ (m : Nat),
 ∃ (a_1 : Option Addr),
 ∃ (n_2 : Nat),
 ∃ (m_1 : Nat),
 ∃ (n_3 : Int),
 v = tuple #[slice a n_1 m, slice a_1 n_2 m_1, int IntKind.i64 n_3] ∧
 Br ((↑n_1 : Int) != 0) (Ret h K (Value.bool false))
 (Br ((↑n_2 : Int) != (↑nn : Int)) (Ret h K (Value.bool false)) (Br (n_3 != 0) (Ret h K (Value.bool false)) (L_law14_InoutClears_2 n nn nc a_1 n_2 m_1 (↑nn : Int) 0 h K))))
theorem L_law14_InoutClears_0r (t : Option Addr) (tn : Nat) (tc : Nat) (net : Option Addr) (netn : Nat) (netc : Nat) (n : Option Addr) (nn : Nat) (nc : Nat) (c : Int) (h : Heap) (K : Value → Heap → Prop) (k : L_law14_InoutClears_0T t tn tc net netn netc n nn nc c h K) : L_law14_InoutClears_0 t tn tc net netn netc n nn nc c h K :=
 LoopAt.of_ev (cs := []) Try.func5 mixed (fun junk => by kernel_rfl) k
def L_law14_InoutClears_1T (t : Option Addr) (tn : Nat) (tc : Nat) (net : Option Addr) (netn : Nat) (netc : Nat) (n : Option Addr) (nn : Nat) (nc : Nat) (c : Int) (sum : Int) (f : Int) (t43 : Int) (t44 : Int) (h : Heap) (K : Value → Heap → Prop) : Prop :=
 Br (decide (t44 < t43))
 (0 ≤ t44 ∧
 t44 < (↑nn : Int) ∧
 withAddr n fun (b o : Nat) =>
 ∃ (a : Option Addr),
 ∃ (n_1 : Nat),
 ∃ (m : Nat),
 Heap.cell h b (o + Int.toNat t44) = some (slice a n_1 m) ∧
 Br (decide (c < (↑n_1 : Int)))
 (Br (f == 0)
 (Br (sum == 0)
 (0 ≤ t44 ∧
 t44 < (↑nn : Int) ∧
 withAddr n fun (b o : Nat) =>
 ∃ (a : Option Addr),
 ∃ (n_2 : Nat),
 ∃ (m : Nat),
 Heap.cell h b (o + Int.toNat t44) = some (slice a n_2 m) ∧
 0 ≤ c ∧
 c < (↑n_2 : Int) ∧
 withAddr a fun (b o : Nat) =>
 ∃ (n_3 : Int),
 Heap.cell h b (o + Int.toNat c) = some (int IntKind.i64 n_3) ∧
 Br (n_3 != 0) (Ret h K (Value.bool false)) (L_law14_InoutClears_1 t tn tc net netn netc n nn nc c sum f t43 (IntKind.wrap IntKind.i64 (t44 + 1)) h K))
 (L_law14_InoutClears_1 t tn tc net netn netc n nn nc c sum f t43 (IntKind.wrap IntKind.i64 (t44 + 1)) h K))
 (L_law14_InoutClears_1 t tn tc net netn netc n nn nc c sum f t43 (IntKind.wrap IntKind.i64 (t44 + 1)) h K))
 (L_law14_InoutClears_1 t tn tc net netn netc n nn nc c sum f t43 (IntKind.wrap IntKind.i64 (t44 + 1)) h K))
 (L_law14_InoutClears_0 t tn tc net netn netc n nn nc (IntKind.wrap IntKind.i64 (c + 1)) h K)
theorem L_law14_InoutClears_1r (t : Option Addr) (tn : Nat) (tc : Nat) (net : Option Addr) (netn : Nat) (netc : Nat) (n : Option Addr) (nn : Nat) (nc : Nat) (c : Int) (sum : Int) (f : Int) (t43 : Int) (t44 : Int) (h : Heap) (K : Value → Heap → Prop) (k : L_law14_InoutClears_1T t tn tc net netn netc n nn nc c sum f t43 t44 h K) : L_law14_InoutClears_1 t tn tc net netn netc n nn nc c sum f t43 t44 h K :=
 LoopAt.of_ev (cs := []) Try.func5 mixed (fun junk => by kernel_rfl) k
def L_law14_InoutClears_2T (n : Option Addr) (nn : Nat) (nc : Nat) (k' : Option Addr) (k'n : Nat) (k'c : Nat) (t95 : Int) (t96 : Int) (h : Heap) (K : Value → Heap → Prop) : Prop :=
 Br (decide (t96 < t95))
 (0 ≤ t96 ∧
 t96 < (↑nn : Int) ∧
 withAddr n fun (b o : Nat) =>
 ∃ (a : Option Addr),
 ∃ (n_1 : Nat),
 ∃ (m : Nat),
 Heap.cell h b (o + Int.toNat t96) = some (slice a n_1 m) ∧
 0 ≤ t96 ∧
 t96 < (↑k'n : Int) ∧
 withAddr k' fun (b o : Nat) =>
 ∃ (a_1 : Option Addr),
 ∃ (n_2 : Nat),
 ∃ (m_1 : Nat),
 Heap.cell h b (o + Int.toNat t96) = some (slice a_1 n_2 m_1) ∧
 CallA Try.prog fn_ref02_Same [slice a n_1 m, slice a_1 n_2 m_1] h fun (v : Value) (h : Heap) =>
 ∃ (b : Bool), v = Value.bool b ∧ Br (!b) (Ret h K (Value.bool false)) (L_law14_InoutClears_2 n nn nc k' k'n k'c t95 (IntKind.wrap IntKind.i64 (t96 + 1)) h K))
 (Ret h K (Value.bool true))
theorem L_law14_InoutClears_2r (n : Option Addr) (nn : Nat) (nc : Nat) (k' : Option Addr) (k'n : Nat) (k'c : Nat) (t95 : Int) (t96 : Int) (h : Heap) (K : Value → Heap → Prop) (k : L_law14_InoutClears_2T n nn nc k' k'n k'c t95 t96 h K) : L_law14_InoutClears_2 n nn nc k' k'n k'c t95 t96 h K :=
 LoopAt.of_ev (cs := []) Try.func5 mixed (fun junk => by kernel_rfl) k
def F_law14_InoutClearsT (t : Option Addr) (tn : Nat) (tc : Nat) (net : Option Addr) (netn : Nat) (netc : Nat) (h : Heap) (K : Value → Heap → Prop) : Prop :=
 CallA Try.prog fn_law14_awake [] h fun (v : Value) (h : Heap) =>
 ∃ (b : Bool),
 v = Value.bool b ∧
 Br (!b) (Ret h K (Value.bool false))
 (CallA Try.prog fn_law14_large [slice t tn tc, slice net netn netc] h fun (v : Value) (h : Heap) =>
 ∃ (b : Bool),
 v = Value.bool b ∧
 Br b (Ret h K (Value.bool true))
 (CallA Try.prog fn_inout_Propose [slice t tn tc, slice net netn netc, int IntKind.i64 1] h fun (v : Value) (h : Heap) =>
 ∃ (a : Option Addr),
 ∃ (n : Nat),
 ∃ (m : Nat),
 ∃ (a_1 : Option Addr),
 ∃ (n_1 : Nat),
 ∃ (m_1 : Nat), ∃ (n_2 : Int), v = tuple #[slice a n m, slice a_1 n_1 m_1, int IntKind.i64 n_2] ∧ Br (n_2 != 0) (Ret h K (Value.bool true)) (L_law14_InoutClears_0 t tn tc net netn netc a_1 n_1 m_1 1 h K)))
theorem F_law14_InoutClears (t : Option Addr) (tn : Nat) (tc : Nat) (net : Option Addr) (netn : Nat) (netc : Nat) (h : Heap) (K : Value → Heap → Prop) (k : F_law14_InoutClearsT t tn tc net netn netc h K) : CallA Try.prog fn_law14_InoutClears [slice t tn tc, slice net netn netc] h K :=
 CallA.of_ev (cs := []) Try.func5 (by kernel_rfl) (fun _ _ => Try.call5 _ _) mixed (by kernel_rfl) (by kernel_rfl) k
end Go.Proofs.Ytkcogdmddhkldaa
