import Derived.Test.YtghdadniddoboaaM03
namespace Go.Proofs.Ytghdadniddoboaa
open Go Go.Sy Go.Value
set_option linter.unusedVariables false
set_option maxRecDepth 100000
def L_law10_RiskHolds_0 (limits : Option Addr) (limitsn : Nat) (limitsc : Nat) (g : Option Addr) (t26 : Option Addr) (t26n : Nat) (t26c : Nat) (t27 : Int) (t28 : Int) (h : Heap) (K : Value → Heap → Prop) : Prop :=
 LoopAt Try.prog Try.f11 11 (loopK Try.f11 0) (sp 102 [(1, slice limits limitsn limitsc), (7, pointer g), (26, slice t26 t26n t26c), (27, int IntKind.i64 t27), (28, int IntKind.i64 t28)]) h K
def L_law10_RiskHolds_1 (limits : Option Addr) (limitsn : Nat) (limitsc : Nat) (g : Option Addr) (x : Nat) (was : Option Addr) (wasn : Nat) (wasc : Nat) (t26 : Option Addr) (t26n : Nat) (t26c : Nat) (t27 : Int) (t28 : Int) (t33 : Int) (t34 : Int) (h : Heap) (K : Value → Heap → Prop) : Prop :=
 LoopAt Try.prog Try.f11 11 (loopK Try.f11 1) (sp 102 [(1, slice limits limitsn limitsc), (7, pointer g), (9, pointer (some { block := x, off := 0 })), (10, slice was wasn wasc), (26, slice t26 t26n t26c), (27, int IntKind.i64 t27), (28, int IntKind.i64 t28),
 (33, int IntKind.i64 t33), (34, int IntKind.i64 t34)]) h K
def L_law10_RiskHolds_2 (limits : Option Addr) (limitsn : Nat) (limitsc : Nat) (g : Option Addr) (x : Nat) (was : Option Addr) (wasn : Nat) (wasc : Nat) (t26 : Option Addr) (t26n : Nat) (t26c : Nat) (t27 : Int) (t28 : Int) (t55 : Int) (t56 : Int) (h : Heap) (K : Value → Heap → Prop) : Prop :=
 LoopAt Try.prog Try.f11 11 (loopK Try.f11 2) (sp 102 [(1, slice limits limitsn limitsc), (7, pointer g), (9, pointer (some { block := x, off := 0 })), (10, slice was wasn wasc), (26, slice t26 t26n t26c), (27, int IntKind.i64 t27), (28, int IntKind.i64 t28),
 (55, int IntKind.i64 t55), (56, int IntKind.i64 t56)]) h K
def L_law10_RiskHolds_0T (limits : Option Addr) (limitsn : Nat) (limitsc : Nat) (g : Option Addr) (t26 : Option Addr) (t26n : Nat) (t26c : Nat) (t27 : Int) (t28 : Int) (h : Heap) (K : Value → Heap → Prop) : Prop :=
 Br (decide (t28 < t27))
 (0 ≤ t28 ∧
 t28 < (↑t26n : Int) ∧
 withAddr t26 fun (b o : Nat) =>
 ∃ (n : Int),
 Heap.cell h b (o + Int.toNat t28 * 7) = some (int IntKind.i64 n) ∧
 ∃ (n_1 : Int),
 Heap.cell h b (o + Int.toNat t28 * 7 + 1) = some (int IntKind.i64 n_1) ∧
 ∃ (n_2 : Int),
 Heap.cell h b (o + Int.toNat t28 * 7 + 2) = some (int IntKind.i64 n_2) ∧
 ∃ (n_3 : Int),
 Heap.cell h b (o + Int.toNat t28 * 7 + 3) = some (int IntKind.i64 n_3) ∧
 ∃ (n_4 : Int),
 Heap.cell h b (o + Int.toNat t28 * 7 + 4) = some (int IntKind.i64 n_4) ∧
 ∃ (n_5 : Int),
 Heap.cell h b (o + Int.toNat t28 * 7 + 5) = some (int IntKind.i64 n_5) ∧
 ∃ (a : Option Addr),
 ∃ (n_6 : Nat),
 ∃ (m : Nat),
 Heap.cell h b (o + Int.toNat t28 * 7 + 6) = some (slice a n_6 m) ∧
 newB h [int IntKind.i64 0, int IntKind.i64 0, int IntKind.i64 0, int IntKind.i64 0, int IntKind.i64 0, int IntKind.i64 0, slice none 0 0] 83 fun (r : Nat) (h : Heap) =>
 Heap.canSt h r 0 7 ∧
 L_law10_RiskHolds_1 limits limitsn limitsc g r none 0 0 t26 t26n t26c t27 t28 (↑limitsn : Int) 0
 (Heap.setN h r 0 [int IntKind.i64 n, int IntKind.i64 n_1, int IntKind.i64 n_2, int IntKind.i64 n_3, int IntKind.i64 n_4, int IntKind.i64 n_5, slice a n_6 m]) K)
 (Ret h K (Value.bool true))
theorem L_law10_RiskHolds_0r (limits : Option Addr) (limitsn : Nat) (limitsc : Nat) (g : Option Addr) (t26 : Option Addr) (t26n : Nat) (t26c : Nat) (t27 : Int) (t28 : Int) (h : Heap) (K : Value → Heap → Prop) (k : L_law10_RiskHolds_0T limits limitsn limitsc g t26 t26n t26c t27 t28 h K) : L_law10_RiskHolds_0 limits limitsn limitsc g t26 t26n t26c t27 t28 h K :=
 LoopAt.of_ev (cs := []) Try.func11 mixed (fun junk => by kernel_rfl) k
def L_law10_RiskHolds_1T (limits : Option Addr) (limitsn : Nat) (limitsc : Nat) (g : Option Addr) (x : Nat) (was : Option Addr) (wasn : Nat) (wasc : Nat) (t26 : Option Addr) (t26n : Nat) (t26c : Nat) (t27 : Int) (t28 : Int) (t33 : Int) (t34 : Int) (h : Heap) (K : Value → Heap → Prop) : Prop :=
 Br (decide (t34 < t33))
 (CallA Try.prog fn_prisk_Guard_Flagged [pointer g, int IntKind.i64 t34] h fun (v : Value) (h : Heap) =>
 ∃ (b : Bool),
 v = Value.bool b ∧
 newB h [Value.bool b] 4 fun (r : Nat) (h : Heap) =>
 AppA [Value.bool false] 4 h was wasn wasc 1 (some { block := r, off := 0 }) fun (ap : Option Addr) (cp : Nat) (h : Heap) =>
 L_law10_RiskHolds_1 limits limitsn limitsc g x ap (wasn + 1) cp t26 t26n t26c t27 t28 t33 (IntKind.wrap IntKind.i64 (t34 + 1)) h K)
 (∃ (n : Int),
 Heap.cell h x 0 = some (int IntKind.i64 n) ∧
 ∃ (n_1 : Int),
 Heap.cell h x 1 = some (int IntKind.i64 n_1) ∧
 ∃ (n_2 : Int),
 Heap.cell h x 2 = some (int IntKind.i64 n_2) ∧
 ∃ (n_3 : Int),
 Heap.cell h x 3 = some (int IntKind.i64 n_3) ∧
 ∃ (n_4 : Int),
 Heap.cell h x 4 = some (int IntKind.i64 n_4) ∧
 ∃ (n_5 : Int),
 Heap.cell h x 5 = some (int IntKind.i64 n_5) ∧
 ∃ (a : Option Addr),
 ∃ (n_6 : Nat),
 ∃ (m : Nat),
 Heap.cell h x 6 = some (slice a n_6 m) ∧
 CallA Try.prog fn_law10_do [pointer g, agg #[int IntKind.i64 n, int IntKind.i64 n_1, int IntKind.i64 n_2, int IntKind.i64 n_3, int IntKind.i64 n_4, int IntKind.i64 n_5, slice a n_6 m]] h
 fun (v : Value) (h : Heap) =>
 ∃ (n : Int),
 v = int IntKind.i64 n ∧
 ∃ (n_7 : Int),
 Heap.cell h x 0 = some (int IntKind.i64 n_7) ∧
 Br (n_7 == 0) (Br (n == 10) (Ret h K (Value.bool false)) (L_law10_RiskHolds_2 limits limitsn limitsc g x was wasn wasc t26 t26n t26c t27 t28 (↑limitsn : Int) 0 h K))
 (L_law10_RiskHolds_2 limits limitsn limitsc g x was wasn wasc t26 t26n t26c t27 t28 (↑limitsn : Int) 0 h K))
theorem L_law10_RiskHolds_1r (limits : Option Addr) (limitsn : Nat) (limitsc : Nat) (g : Option Addr) (x : Nat) (was : Option Addr) (wasn : Nat) (wasc : Nat) (t26 : Option Addr) (t26n : Nat) (t26c : Nat) (t27 : Int) (t28 : Int) (t33 : Int) (t34 : Int) (h : Heap) (K : Value → Heap → Prop) (k : L_law10_RiskHolds_1T limits limitsn limitsc g x was wasn wasc t26 t26n t26c t27 t28 t33 t34 h K) : L_law10_RiskHolds_1 limits limitsn limitsc g x was wasn wasc t26 t26n t26c t27 t28 t33 t34 h K :=
 LoopAt.of_ev (cs := []) Try.func11 mixed (fun junk => by kernel_rfl) k
def L_law10_RiskHolds_2T (limits : Option Addr) (limitsn : Nat) (limitsc : Nat) (g : Option Addr) (x : Nat) (was : Option Addr) (wasn : Nat) (wasc : Nat) (t26 : Option Addr) (t26n : Nat) (t26c : Nat) (t27 : Int) (t28 : Int) (t55 : Int) (t56 : Int) (h : Heap) (K : Value → Heap → Prop) : Prop :=
 Br (decide (t56 < t55))
 (CallA Try.prog fn_prisk_Guard_Flagged [pointer g, int IntKind.i64 t56] h fun (v : Value) (h : Heap) =>
 ∃ (b : Bool),
 v = Value.bool b ∧
 Br (!b)
 (CallA Try.prog fn_prisk_Guard_Fails [pointer g, int IntKind.i64 t56, slice none 0 0] h fun (v : Value) (h : Heap) =>
 ∃ (n : Int),
 v = int IntKind.i64 n ∧
 Br (n != 0) (Ret h K (Value.bool false))
 (Br b
 (0 ≤ t56 ∧
 t56 < (↑wasn : Int) ∧
 withAddr was fun (b o : Nat) =>
 ∃ (b_1 : Bool),
 Heap.cell h b (o + Int.toNat t56) = some (Value.bool b_1) ∧
 Br (!b_1)
 (∃ (n : Int),
 Heap.cell h x 0 = some (int IntKind.i64 n) ∧
 Br (n != 2)
 (∃ (n : Int),
 Heap.cell h x 0 = some (int IntKind.i64 n) ∧
 Br (n != 3)
 (∃ (n : Int),
 Heap.cell h x 0 = some (int IntKind.i64 n) ∧
 Br (n != 5)
 (∃ (n : Int),
 Heap.cell h x 0 = some (int IntKind.i64 n) ∧
 Br (n != 6) (Ret h K (Value.bool false)) (L_law10_RiskHolds_2 limits limitsn limitsc g x was wasn wasc t26 t26n t26c t27 t28 t55 (IntKind.wrap IntKind.i64 (t56 + 1)) h K))
 (L_law10_RiskHolds_2 limits limitsn limitsc g x was wasn wasc t26 t26n t26c t27 t28 t55 (IntKind.wrap IntKind.i64 (t56 + 1)) h K))
 (L_law10_RiskHolds_2 limits limitsn limitsc g x was wasn wasc t26 t26n t26c t27 t28 t55 (IntKind.wrap IntKind.i64 (t56 + 1)) h K))
 (L_law10_RiskHolds_2 limits limitsn limitsc g x was wasn wasc t26 t26n t26c t27 t28 t55 (IntKind.wrap IntKind.i64 (t56 + 1)) h K))
 (L_law10_RiskHolds_2 limits limitsn limitsc g x was wasn wasc t26 t26n t26c t27 t28 t55 (IntKind.wrap IntKind.i64 (t56 + 1)) h K))
 (L_law10_RiskHolds_2 limits limitsn limitsc g x was wasn wasc t26 t26n t26c t27 t28 t55 (IntKind.wrap IntKind.i64 (t56 + 1)) h K)))
 (Br b
 (0 ≤ t56 ∧
 t56 < (↑wasn : Int) ∧
 withAddr was fun (b o : Nat) =>
 ∃ (b_1 : Bool),
 Heap.cell h b (o + Int.toNat t56) = some (Value.bool b_1) ∧
 Br (!b_1)
 (∃ (n : Int),
 Heap.cell h x 0 = some (int IntKind.i64 n) ∧
 Br (n != 2)
 (∃ (n : Int),
 Heap.cell h x 0 = some (int IntKind.i64 n) ∧
 Br (n != 3)
 (∃ (n : Int),
 Heap.cell h x 0 = some (int IntKind.i64 n) ∧
 Br (n != 5)
 (∃ (n : Int),
 Heap.cell h x 0 = some (int IntKind.i64 n) ∧
 Br (n != 6) (Ret h K (Value.bool false)) (L_law10_RiskHolds_2 limits limitsn limitsc g x was wasn wasc t26 t26n t26c t27 t28 t55 (IntKind.wrap IntKind.i64 (t56 + 1)) h K))
 (L_law10_RiskHolds_2 limits limitsn limitsc g x was wasn wasc t26 t26n t26c t27 t28 t55 (IntKind.wrap IntKind.i64 (t56 + 1)) h K))
 (L_law10_RiskHolds_2 limits limitsn limitsc g x was wasn wasc t26 t26n t26c t27 t28 t55 (IntKind.wrap IntKind.i64 (t56 + 1)) h K))
 (L_law10_RiskHolds_2 limits limitsn limitsc g x was wasn wasc t26 t26n t26c t27 t28 t55 (IntKind.wrap IntKind.i64 (t56 + 1)) h K))
 (L_law10_RiskHolds_2 limits limitsn limitsc g x was wasn wasc t26 t26n t26c t27 t28 t55 (IntKind.wrap IntKind.i64 (t56 + 1)) h K))
 (L_law10_RiskHolds_2 limits limitsn limitsc g x was wasn wasc t26 t26n t26c t27 t28 t55 (IntKind.wrap IntKind.i64 (t56 + 1)) h K)))
 (L_law10_RiskHolds_0 limits limitsn limitsc g t26 t26n t26c t27 (IntKind.wrap IntKind.i64 (t28 + 1)) h K)
theorem L_law10_RiskHolds_2r (limits : Option Addr) (limitsn : Nat) (limitsc : Nat) (g : Option Addr) (x : Nat) (was : Option Addr) (wasn : Nat) (wasc : Nat) (t26 : Option Addr) (t26n : Nat) (t26c : Nat) (t27 : Int) (t28 : Int) (t55 : Int) (t56 : Int) (h : Heap) (K : Value → Heap → Prop) (k : L_law10_RiskHolds_2T limits limitsn limitsc g x was wasn wasc t26 t26n t26c t27 t28 t55 t56 h K) : L_law10_RiskHolds_2 limits limitsn limitsc g x was wasn wasc t26 t26n t26c t27 t28 t55 t56 h K :=
 LoopAt.of_ev (cs := []) Try.func11 mixed (fun junk => by kernel_rfl) k
def F_law10_RiskHoldsT (t : Option Addr) (tn : Nat) (tc : Nat) (limits : Option Addr) (limitsn : Nat) (limitsc : Nat) (ops : Option Addr) (opsn : Nat) (opsc : Nat) (h : Heap) (K : Value → Heap → Prop) : Prop :=
 CallA Try.prog fn_law10_awake [] h fun (v : Value) (h : Heap) =>
 ∃ (b : Bool),
 v = Value.bool b ∧
 Br (!b) (Ret h K (Value.bool false))
 (CallA Try.prog fn_law10_large [slice t tn tc, slice limits limitsn limitsc, slice ops opsn opsc] h fun (v : Value) (h : Heap) =>
 ∃ (b : Bool),
 v = Value.bool b ∧
 Br b (Ret h K (Value.bool true))
 (CallA Try.prog fn_law10_made [slice t tn tc, slice limits limitsn limitsc] h fun (v : Value) (h : Heap) =>
 ∃ (a : Option Addr), v = pointer a ∧ Br (Option.isNone a) (Ret h K (Value.bool true)) (L_law10_RiskHolds_0 limits limitsn limitsc a ops opsn opsc (↑opsn : Int) 0 h K)))
theorem F_law10_RiskHolds (t : Option Addr) (tn : Nat) (tc : Nat) (limits : Option Addr) (limitsn : Nat) (limitsc : Nat) (ops : Option Addr) (opsn : Nat) (opsc : Nat) (h : Heap) (K : Value → Heap → Prop) (k : F_law10_RiskHoldsT t tn tc limits limitsn limitsc ops opsn opsc h K) : CallA Try.prog fn_law10_RiskHolds [slice t tn tc, slice limits limitsn limitsc, slice ops opsn opsc] h K :=
 CallA.of_ev (cs := []) Try.func11 (by kernel_rfl) (fun _ _ => Try.call11 _ _) mixed (by kernel_rfl) (by kernel_rfl) k
end Go.Proofs.Ytghdadniddoboaa
