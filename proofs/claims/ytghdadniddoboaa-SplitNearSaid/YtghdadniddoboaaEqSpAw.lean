import Derived.Test.YtghdadniddoboaaEqN
namespace Go.Proofs.Ytghdadniddoboaa
open Go Go.Sy Go.Value
set_option linter.unusedVariables false
set_option maxRecDepth 100000
def F_law02_awakeT (h : Heap) (K : Value → Heap → Prop) : Prop :=
 newB h [int IntKind.i64 1, int IntKind.i64 5, int IntKind.i64 1] 2 fun (r : Nat) (h : Heap) =>
 CallA Try.prog fn_split_Shares [int IntKind.i64 10, slice (some { block := r, off := 0 }) 3 3] h fun (v : Value) (h : Heap) =>
 ∃ (a : Option Addr),
 ∃ (n : Nat),
 ∃ (m : Nat),
 ∃ (n_1 : Int),
 v = tuple #[slice a n m, int IntKind.i64 n_1] ∧
 CallA Try.prog fn_split_Even [int IntKind.i64 10, int IntKind.i64 3] h fun (v : Value) (h : Heap) =>
 ∃ (a_1 : Option Addr),
 ∃ (n_2 : Nat),
 ∃ (m_1 : Nat),
 ∃ (n_3 : Int),
 v = tuple #[slice a_1 n_2 m_1, int IntKind.i64 n_3] ∧
 newB h [int IntKind.i64 3, int IntKind.i64 0, int IntKind.i64 4] 2 fun (r : Nat) (h : Heap) =>
 CallA Try.prog fn_split_Fill [int IntKind.i64 10, slice (some { block := r, off := 0 }) 3 3] h fun (v : Value) (h : Heap) =>
 ∃ (a_2 : Option Addr),
 ∃ (n_4 : Nat),
 ∃ (m_2 : Nat),
 ∃ (n_5 : Int),
 ∃ (n_6 : Int),
 v = tuple #[slice a_2 n_4 m_2, int IntKind.i64 n_5, int IntKind.i64 n_6] ∧
 newB h [int IntKind.i64 0] 2 fun (r : Nat) (h : Heap) =>
 CallA Try.prog fn_split_Shares [int IntKind.i64 10, slice (some { block := r, off := 0 }) 1 1] h fun (v : Value) (h : Heap) =>
 ∃ (a_3 : Option Addr),
 ∃ (n_7 : Nat),
 ∃ (m_3 : Nat),
 ∃ (n_8 : Int),
 v = tuple #[slice a_3 n_7 m_3, int IntKind.i64 n_8] ∧
 CallA Try.prog fn_split_Even [int IntKind.i64 1, int IntKind.i64 65] h fun (v : Value) (h : Heap) =>
 ∃ (a_4 : Option Addr),
 ∃ (n_9 : Nat),
 ∃ (m_4 : Nat),
 ∃ (n_10 : Int),
 v = tuple #[slice a_4 n_9 m_4, int IntKind.i64 n_10] ∧
 newB h [int IntKind.i64 2, int IntKind.i64 7, int IntKind.i64 1] 2 fun (r : Nat) (h : Heap) =>
 CallA Try.prog fn_ref02_Same [slice a n m, slice (some { block := r, off := 0 }) 3 3] h fun (v : Value) (h : Heap) =>
 ∃ (b : Bool),
 v = Value.bool b ∧
 Br b
 (Br (n_1 == 0)
 (newB h [int IntKind.i64 4, int IntKind.i64 3, int IntKind.i64 3] 2 fun (r : Nat) (h : Heap) =>
 CallA Try.prog fn_ref02_Same [slice a_1 n_2 m_1, slice (some { block := r, off := 0 }) 3 3] h fun (v : Value) (h : Heap) =>
 ∃ (b : Bool),
 v = Value.bool b ∧
 Br b
 (Br (n_3 == 0)
 (newB h [int IntKind.i64 3, int IntKind.i64 0, int IntKind.i64 4] 2 fun (r : Nat) (h : Heap) =>
 CallA Try.prog fn_ref02_Same [slice a_2 n_4 m_2, slice (some { block := r, off := 0 }) 3 3] h fun (v : Value) (h : Heap) =>
 ∃ (b : Bool),
 v = Value.bool b ∧
 Br b
 (Br (n_5 == 3)
 (Br (n_6 == 0) (Br (n_8 == 1) (Ret h K (Value.bool (n_10 == 4))) (Ret h K (Value.bool false)))
 (Ret h K (Value.bool false)))
 (Ret h K (Value.bool false)))
 (Ret h K (Value.bool false)))
 (Ret h K (Value.bool false)))
 (Ret h K (Value.bool false)))
 (Ret h K (Value.bool false)))
 (Ret h K (Value.bool false))
theorem F_law02_awake (h : Heap) (K : Value → Heap → Prop) (k : F_law02_awakeT h K) : CallA Try.prog fn_law02_awake [] h K :=
 CallA.of_ev (cs := []) Try.func13 (by kernel_rfl) (fun _ _ => Try.call13 _ _) mixed (by kernel_rfl) (by kernel_rfl) k
end Go.Proofs.Ytghdadniddoboaa
