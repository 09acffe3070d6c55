import Derived.Test.YtkcogdmddhkldaaEqN
namespace Go.Proofs.Ytkcogdmddhkldaa
open Go Go.Sy Go.Value
set_option linter.unusedVariables false
set_option maxRecDepth 100000
def L_law14_InoutTells_0 (n : Option Addr) (nn : Nat) (nc : Nat) (k' : Option Addr) (k'n : Nat) (k'c : Nat) (t53 : Int) (t54 : Int) (h : Heap) (K : Value → Heap → Prop) : Prop :=
 LoopAt Try.prog Try.f3 3 (loopK Try.f3 0) (sp 68 [(8, slice n nn nc), (11, slice k' k'n k'c), (53, int IntKind.i64 t53), (54, int IntKind.i64 t54)]) h K
def L_law14_InoutTells_0T (n : Option Addr) (nn : Nat) (nc : Nat) (k' : Option Addr) (k'n : Nat) (k'c : Nat) (t53 : Int) (t54 : Int) (h : Heap) (K : Value → Heap → Prop) : Prop :=
 Br (decide (t54 < t53))
 (0 ≤ t54 ∧
 t54 < (↑nn : Int) ∧
 withAddr n fun (b o : Nat) =>
 ∃ (a : Option Addr),
 ∃ (n_1 : Nat),
 ∃ (m : Nat),
 Heap.cell h b (o + Int.toNat t54) = some (slice a n_1 m) ∧
 0 ≤ t54 ∧
 t54 < (↑k'n : Int) ∧
 withAddr k' fun (b o : Nat) =>
 ∃ (a_1 : Option Addr),
 ∃ (n_2 : Nat),
 ∃ (m_1 : Nat),
 Heap.cell h b (o + Int.toNat t54) = some (slice a_1 n_2 m_1) ∧
 CallA Try.prog fn_ref02_Same [slice a n_1 m, slice a_1 n_2 m_1] h fun (v : Value) (h : Heap) =>
 ∃ (b : Bool), v = Value.bool b ∧ Br (!b) (Ret h K (Value.bool false)) (L_law14_InoutTells_0 n nn nc k' k'n k'c t53 (IntKind.wrap IntKind.i64 (t54 + 1)) h K))
 (Ret h K (Value.bool true))
theorem L_law14_InoutTells_0r (n : Option Addr) (nn : Nat) (nc : Nat) (k' : Option Addr) (k'n : Nat) (k'c : Nat) (t53 : Int) (t54 : Int) (h : Heap) (K : Value → Heap → Prop) (k : L_law14_InoutTells_0T n nn nc k' k'n k'c t53 t54 h K) : L_law14_InoutTells_0 n nn nc k' k'n k'c t53 t54 h K :=
 LoopAt.of_ev (cs := []) Try.func3 mixed (fun junk => by kernel_rfl) k
def F_law14_InoutTellsT (t : Option Addr) (tn : Nat) (tc : Nat) (net : Option Addr) (netn : Nat) (netc : Nat) (least : Int) (h : Heap) (K : Value → Heap → Prop) : Prop :=
 CallA Try.prog fn_law14_awake [] h fun (v : Value) (h : Heap) =>
 ∃ (b : Bool),
 v = Value.bool b ∧
 Br (!b) (Ret h K (Value.bool false))
 (CallA Try.prog fn_law14_large [slice t tn tc, slice net netn netc] h fun (v : Value) (h : Heap) =>
 ∃ (b : Bool),
 v = Value.bool b ∧
 Br b (Ret h K (Value.bool true))
 (CallA Try.prog fn_inout_Propose [slice t tn tc, slice net netn netc, int IntKind.i64 least] h fun (v : Value) (h : Heap) =>
 ∃ (a : Option Addr),
 ∃ (n : Nat),
 ∃ (m : Nat),
 ∃ (a_1 : Option Addr),
 ∃ (n_1 : Nat),
 ∃ (m_1 : Nat),
 ∃ (n_2 : Int),
 v = tuple #[slice a n m, slice a_1 n_1 m_1, int IntKind.i64 n_2] ∧
 CallA Try.prog fn_ref14_Propose [slice t tn tc, slice net netn netc, int IntKind.i64 least] h fun (v : Value) (h : Heap) =>
 ∃ (a_2 : Option Addr),
 ∃ (n_3 : Nat),
 ∃ (m_2 : Nat),
 ∃ (a_3 : Option Addr),
 ∃ (n_4 : Nat),
 ∃ (m_3 : Nat),
 ∃ (n_5 : Int),
 v = tuple #[slice a_2 n_3 m_2, slice a_3 n_4 m_3, int IntKind.i64 n_5] ∧
 Br (n_2 != n_5) (Ret h K (Value.bool false))
 (CallA Try.prog fn_law14_own [slice a n m] h fun (v : Value) (h : Heap) =>
 ∃ (a : Option Addr),
 ∃ (n : Nat),
 ∃ (m : Nat),
 v = slice a n m ∧
 CallA Try.prog fn_ref14_Same [slice a n m, slice a_2 n_3 m_2] h fun (v : Value) (h : Heap) =>
 ∃ (b : Bool),
 v = Value.bool b ∧
 Br (!b) (Ret h K (Value.bool false))
 (Br ((↑n_1 : Int) != (↑n_4 : Int)) (Ret h K (Value.bool false)) (L_law14_InoutTells_0 a_1 n_1 m_1 a_3 n_4 m_3 (↑n_1 : Int) 0 h K)))))
theorem F_law14_InoutTells (t : Option Addr) (tn : Nat) (tc : Nat) (net : Option Addr) (netn : Nat) (netc : Nat) (least : Int) (h : Heap) (K : Value → Heap → Prop) (k : F_law14_InoutTellsT t tn tc net netn netc least h K) : CallA Try.prog fn_law14_InoutTells [slice t tn tc, slice net netn netc, int IntKind.i64 least] h K :=
 CallA.of_ev (cs := []) Try.func3 (by kernel_rfl) (fun _ _ => Try.call3 _ _) mixed (by kernel_rfl) (by kernel_rfl) k
end Go.Proofs.Ytkcogdmddhkldaa
