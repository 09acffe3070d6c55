import Derived.Test.YtkcogdmddhkldaaEqN
namespace Go.Proofs.Ytkcogdmddhkldaa
open Go Go.Sy Go.Value
set_option linter.unusedVariables false
set_option maxRecDepth 100000
def F_pstrings_Builder_WriteByteT (b : Option Addr) (c : Int) (h : Heap) (K : Value → Heap → Prop) : Prop :=
 CallA Try.prog fn_pstrings_Builder_copyCheck [pointer b] h fun (v : Value) (h : Heap) =>
 v = tuple #[] ∧
 withAddr b fun (b_1 o : Nat) =>
 ∃ (a : Option Addr),
 ∃ (n : Nat),
 ∃ (m : Nat),
 Heap.cell h b_1 (o + 1) = some (slice a n m) ∧
 newB h [int IntKind.u8 c] 5 fun (r : Nat) (h : Heap) =>
 AppA [int IntKind.u8 0] 5 h a n m 1 (some { block := r, off := 0 }) fun (ap : Option Addr) (cp : Nat) (h : Heap) =>
 withAddr b fun (b o : Nat) => Heap.canSt h b (o + 1) 1 ∧ Ret (Heap.setN h b (o + 1) [slice ap (n + 1) cp]) K nilIface
theorem F_pstrings_Builder_WriteByte (b : Option Addr) (c : Int) (h : Heap) (K : Value → Heap → Prop) (k : F_pstrings_Builder_WriteByteT b c h K) : CallA Try.prog fn_pstrings_Builder_WriteByte [pointer b, int IntKind.u8 c] h K :=
 CallA.of_ev (cs := []) Try.func91 (by kernel_rfl) (fun _ _ => Try.call91 _ _) mixed (by kernel_rfl) (by kernel_rfl) k
def F_pstrings_Builder_StringT (b : Option Addr) (h : Heap) (K : Value → Heap → Prop) : Prop :=
 withAddr b fun (b_1 o : Nat) =>
 ∃ (a : Option Addr),
 ∃ (n : Nat),
 ∃ (m : Nat),
 Heap.cell h b_1 (o + 1) = some (slice a n m) ∧
 (a = none ∨ m ≠ 0) ∧
 withAddr b fun (b o : Nat) =>
 ∃ (a_1 : Option Addr), ∃ (n : Nat), ∃ (m : Nat), Heap.cell h b (o + 1) = some (slice a_1 n m) ∧ UStrA Try.prog 5 h a (↑n : Int) fun (s : ByteArray) (h : Heap) => Ret h K (string s)
theorem F_pstrings_Builder_String (b : Option Addr) (h : Heap) (K : Value → Heap → Prop) (k : F_pstrings_Builder_StringT b h K) : CallA Try.prog fn_pstrings_Builder_String [pointer b] h K :=
 CallA.of_ev (cs := []) Try.func93 (by kernel_rfl) (fun _ _ => Try.call93 _ _) mixed (by kernel_rfl) (by kernel_rfl) k
def F_pstrings_Builder_copyCheckT (b : Option Addr) (h : Heap) (K : Value → Heap → Prop) : Prop :=
 withAddr b fun (b_1 o : Nat) =>
 ∃ (a : Option Addr),
 Heap.cell h b_1 o = some (pointer a) ∧
 Br (Option.isNone a)
 (withAddr b fun (b_2 o : Nat) =>
 ToU h b_2 o ∧ LieU Try.prog h b_2 o 157 1 ∧ withAddr b fun (b o_1 : Nat) => Heap.canSt h b o_1 1 ∧ Ret (Heap.setN h b o_1 [pointer (some { block := b_2, off := o })]) K (tuple #[]))
 (withAddr b fun (b_2 o : Nat) => ∃ (a : Option Addr), Heap.cell h b_2 o = some (pointer a) ∧ withAddr a fun (b_3 o : Nat) => withAddr b fun (b o_1 : Nat) => b_3 = b ∧ o = o_1 ∧ Ret h K (tuple #[]))
theorem F_pstrings_Builder_copyCheck (b : Option Addr) (h : Heap) (K : Value → Heap → Prop) (k : F_pstrings_Builder_copyCheckT b h K) : CallA Try.prog fn_pstrings_Builder_copyCheck [pointer b] h K :=
 CallA.of_ev (cs := []) Try.func119 (by kernel_rfl) (fun _ _ => Try.call119 _ _) mixed (by kernel_rfl) (by kernel_rfl) k
end Go.Proofs.Ytkcogdmddhkldaa
