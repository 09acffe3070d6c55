import Derived.Test.YtghdadniddoboaaEqN
namespace Go.Proofs.Ytghdadniddoboaa
open Go Go.Sy Go.Value
set_option linter.unusedVariables false
set_option maxRecDepth 100000
def L_ref02_Same_0 (a : Option Addr) (an : Nat) (ac : Nat) (b : Option Addr) (bn : Nat) (bc : Nat) (i : Int) (h : Heap) (K : Value → Heap → Prop) : Prop :=
 LoopAt Try.prog Try.f20 20 (loopK Try.f20 0) (sp 26 [(0, slice a an ac), (1, slice b bn bc), (5, int IntKind.i64 i)]) h K
def L_ref02_Same_0T (a : Option Addr) (an : Nat) (ac : Nat) (b : Option Addr) (bn : Nat) (bc : Nat) (i : Int) (h : Heap) (K : Value → Heap → Prop) : Prop :=
 Br (decide (i < (↑an : Int)))
 (0 ≤ i ∧
 i < (↑an : Int) ∧
 withAddr a fun (b_1 o : Nat) =>
 ∃ (n : Int),
 Heap.cell h b_1 (o + Int.toNat i) = some (int IntKind.i64 n) ∧
 0 ≤ i ∧
 i < (↑bn : Int) ∧
 withAddr b fun (b_2 o : Nat) =>
 ∃ (n_1 : Int), Heap.cell h b_2 (o + Int.toNat i) = some (int IntKind.i64 n_1) ∧ Br (n != n_1) (Ret h K (Value.bool false)) (L_ref02_Same_0 a an ac b bn bc (IntKind.wrap IntKind.i64 (i + 1)) h K))
 (Ret h K (Value.bool true))
theorem L_ref02_Same_0r (a : Option Addr) (an : Nat) (ac : Nat) (b : Option Addr) (bn : Nat) (bc : Nat) (i : Int) (h : Heap) (K : Value → Heap → Prop) (k : L_ref02_Same_0T a an ac b bn bc i h K) : L_ref02_Same_0 a an ac b bn bc i h K :=
 LoopAt.of_ev (cs := []) Try.func20 mixed (fun junk => by kernel_rfl) k
def F_ref02_SameT (a : Option Addr) (an : Nat) (ac : Nat) (b : Option Addr) (bn : Nat) (bc : Nat) (h : Heap) (K : Value → Heap → Prop) : Prop :=
 Br ((↑an : Int) != (↑bn : Int)) (Ret h K (Value.bool false)) (L_ref02_Same_0 a an ac b bn bc 0 h K)
theorem F_ref02_Same (a : Option Addr) (an : Nat) (ac : Nat) (b : Option Addr) (bn : Nat) (bc : Nat) (h : Heap) (K : Value → Heap → Prop) (k : F_ref02_SameT a an ac b bn bc h K) : CallA Try.prog fn_ref02_Same [slice a an ac, slice b bn bc] h K :=
 CallA.of_ev (cs := []) Try.func20 (by kernel_rfl) (fun _ _ => Try.call20 _ _) mixed (by kernel_rfl) (by kernel_rfl) k
end Go.Proofs.Ytghdadniddoboaa
