import Derived.Test.YtghdadniddoboaaM03
namespace Go.Proofs.Ytghdadniddoboaa
open Go Go.Sy Go.Value
set_option linter.unusedVariables false
set_option maxRecDepth 100000
def L_law10_RiskHolds_0 (limits : Option Addr) (limitsn : Nat) (limitsc : Nat) (g : Option Addr) (t26 : Option Addr) (t26n : Nat) (t26c : Nat) (t27 : Int) (t28 : Int) (h : Heap) (K : Value → Heap → Prop) : Prop :=
 LoopAt Try.prog Try.f11 11 (loopK Try.f11 0) (sp 102 [(1, slice limits limitsn limitsc), (7, pointer g), (26, slice t26 t26n t26c), (27, int IntKind.i64 t27), (28, int IntKind.i64 t28)]) h K
def L_law10_RiskHolds_1 (limits : Option Addr) (limitsn : Nat) (limitsc : Nat) (g : Option Addr) (x : Nat) (was : Option Addr) (wasn : Nat) (wasc : Nat) (t26 : Option Addr) (t26n : Nat) (t26c : Nat) (t27 : Int) (t28 : Int) (t33 : Int) (t34 : Int) (h : Heap) (K : Value → Heap → Prop) : Prop :=
 LoopAt Try.prog Try.f11 11 (loopK Try.f11 1) (sp 102 [(1, slice limits limitsn limitsc), (7, pointer g), (9, pointer (some { block := x, off := 0 })), (10, slice was wasn wasc), (26, slice t26 t26n t26c), (27, int IntKind.i64 t27), (28, int IntKind.i64 t28),
 (33, int IntKind.i64 t33), (34, int IntKind.i64 t34)]) h K
def L_law10_RiskHolds_2 (limits : Option Addr) (limitsn : Nat) (limitsc : Nat) (g : Option Addr) (x : Nat) (was : Option Addr) (wasn : Nat) (wasc : Nat) (t26 : Option Addr) (t26n : Nat) (t26c : Nat) (t27 : Int) (t28 : Int) (t55 : Int) (t56 : Int) (h : Heap) (K : Value → Heap → Prop) : Prop :=
 LoopAt Try.prog Try.f11 11 (loopK Try.f11 2) (sp 102 [(1, slice limits limitsn limitsc), (7, pointer g), (9, pointer (some { block := x, off := 0 })), (10, slice was wasn wasc), (26, slice t26 t26n t26c), (27, int IntKind.i64 t27), (28, int IntKind.i64 t28),
 (55, int IntKind.i64 t55), (56, int IntKind.i64 t56)]) h K
def L_law10_RiskHolds_0T (limits : Option Addr) (limitsn : Nat) (limitsc : Nat) (g : Option Addr) (t26 : Option Addr) (t26n : Nat) (t26c : Nat) (t27 : Int) (t28 : Int) (h : Heap) (K : Value → Heap → Prop) : Prop :=
 Br (decide (t28 < t27))
 (0 ≤ t28 ∧
 t28 < (↑t26n : Int) ∧
 withAddr t26 fun (b o : Nat) =>
 ∃ (n : Int),
 Heap.cell h b (o + Int.toNat t28 * 7) = some (int IntKind.i64 n) ∧
 ∃ (n_1 : Int),
 Heap.cell h b (o + Int.toNat t28 * 7 + 1) = some (int IntKind.i64 n_1) ∧
 ∃ (n_2 : Int),
 Heap.cell h b (o + Int.toNat t28 * 7 + 2) = some (int IntKind.i64 n_2) ∧
 ∃ (n_3 : Int),
 Heap.cell h b (o + Int.toNat t28 * 7 + 3) = some (int IntKind.i64 n_3) ∧
 ∃ (n_4 : Int),
 Heap.cell h b (o + Int.toNat t28 * 7 + 4) = some (int IntKind.i64 n_4) ∧
 ∃ (n_5 : Int),
 Heap.cell h b (o + Int.toNat t28 * 7 + 5) = some (int IntKind.i64 n_5) ∧
 ∃ (a : Option Addr),
 ∃ (n_6 : Nat),
 ∃ (m : Nat),
 Heap.cell h b (o + Int.toNat t28 * 7 + 6) = some (slice a n_6 m) ∧
 newB h [int IntKind.i64 0, int IntKind.i64 0, int IntKind.i64 0, int IntKind.i64 0, int IntKind.i64 0, int IntKind.i64 0, slice none 0 0] 83 fun (r : Nat) (h : Heap) =>
 Heap.canSt h r 0 7 ∧
 L_law10_RiskHolds_1 limits limitsn limitsc g r none 0 0 t26 t26n t26c t27 t28 (↑limitsn : Int) 0
 (Heap.setN h r 0 [int IntKind.i64 n, int IntKind.i64 n_1, int IntKind.i64 n_2, int IntKind.i64 n_3, int IntKind.i64 n_4, int IntKind.i64 n_5, slice a n_6 m]) K)
 (Ret h K (Value.bool true))
theorem L_law10_RiskHolds_0r (limits : Option Addr) (limitsn : Nat) (limitsc : Nat) (g : Option Addr) (t26 : Option Addr) (t26n : Nat) (t26c : Nat) (t27 : Int) (t28 : Int) (h : Heap) (K : Value → Heap → Prop) (k : L_law10_RiskHolds_0T limits limitsn limitsc g t26 t26n t26c t27 t28 h K) : L_law10_RiskHolds_0 limits limitsn limitsc g t26 t26n t26c t27 t28 h K :=
 LoopAt.of_ev (cs := []) Try.func11 mixed (fun junk => by kernel_rfl) k
def L_law10_RiskHolds_1T (limits : Option Addr) (limitsn : Nat) (limitsc : Nat) (g : Option Addr) (x : Nat) (was : Option Addr) (wasn : Nat) (wasc : Nat) (t26 : Option Addr) (t26n : Nat) (t26c : Nat) (t27 : Int) (t28 : Int) (t33 : Int) (t34 : Int) (h : Heap) (K : Value → Heap → Prop) : Prop :=
 Br (decide (t34 < t33))
 (CallA Try.prog fn_prisk_Guard_Flagged [pointer g, int IntKind.i64 t34] h fun (v : Value) (h : Heap) =>
 ∃ (b : Bool),
 v = Value.bool b ∧
 newB h [Value.bool b] 4 fun (r : Nat) (h : Heap) =>
 AppA [Value.bool false] 4 h was wasn wasc 1 (some { block := r, off := 0 }) fun (ap : Option Addr) (cp : Nat) (h : Heap) =>
 L_law10_RiskHolds_1 limits limitsn limitsc g x ap (wasn + 1) cp t26 t26n t26c t27 t28 t33 (IntKind.wrap IntKind.i64 (t34 + 1)) h K)
 (∃ (n : Int),
 Heap.cell h x 0 = some (int IntKind.i64 n) ∧
 ∃ (n_1 : Int),
 Heap.cell h x 1 = some (int IntKind.i64 n_1) ∧
 ∃ (n_2 : Int),
 Heap.cell h x 2 = some (int IntKind.i64 n_2) ∧
 ∃ (n_3 : Int),
 Heap.cell h x 3 = some (int IntKind.i64 n_3) ∧
 ∃ (n_4 : Int),
 Heap.cell h x 4 = some (int IntKind.i64 n_4) ∧
 ∃ (n_5 : Int),
 Heap.cell h x 5 = some (int IntKind.i64 n_5) ∧
 ∃ (a : Option Addr),
 ∃ (n_6 : Nat),
 ∃ (m : Nat),
 Heap.cell h x 6 = some (slice a n_6 m) ∧
 CallA Try.prog fn_law10_do [pointer g, agg #[int IntKind.i64 n, int IntKind.i64 n_1, int IntKind.i64 n_2, int IntKind.i64 n_3, int IntKind.i64 n_4, int IntKind.i64 n_5, slice a n_6 m]] h
 fun (v : Value) (h : Heap) =>
 ∃ (n : Int),
 v = int IntKind.i64 n ∧
 ∃ (n_7 : Int),
 Heap.cell h x 0 = some (int IntKind.i64 n_7) ∧
 Br (n_7 == 0) (Br (n == 10) (Ret h K (Value.bool false)) (L_law10_RiskHolds_2 limits limitsn limitsc g x was wasn wasc t26 t26n t26c t27 t28 (↑limitsn : Int) 0 h K))
 (L_law10_RiskHolds_2 limits limitsn limitsc g x was wasn wasc t26 t26n t26c t27 t28 (↑limitsn : Int) 0 h K))
theorem L_law10_RiskHolds_1r (limits : Option Addr) (limitsn : Nat) (limitsc : Nat) (g : Option Addr) (x : Nat) (was : Option Addr) (wasn : Nat) (wasc : Nat) (t26 : Option Addr) (t26n : Nat) (t26c : Nat) (t27 : Int) (t28 : Int) (t33 : Int) (t34 : Int) (h : Heap) (K : Value → Heap → Prop) (k : L_law10_RiskHolds_1T limits limitsn limitsc g x was wasn wasc t26 t26n t26c t27 t28 t33 t34 h K) : L_law10_RiskHolds_1 limits limitsn limitsc g x was wasn wasc t26 t26n t26c t27 t28 t33 t34 h K :=
 LoopAt.of_ev (cs := []) Try.func11 mixed (fun junk => by kernel_rfl) k
def L_law10_RiskHolds_2T (limits : Option Addr) (limitsn : Nat) (limitsc : Nat) (g : Option Addr) (x : Nat) (was : Option Addr) (wasn : Nat) (wasc : Nat) (t26 : Option Addr) (t26n : Nat) (t26c : Nat) (t27 : Int) (t28 : Int) (t55 : Int) (t56 : Int) (h : Heap) (K : Value → Heap → Prop) : Prop :=
 Br (decide (t56 < t55))
 (CallA Try.prog fn_prisk_Guard_Flagged [pointer g, int IntKind.i64 t56] h fun (v : Value) (h : Heap) =>
 ∃ (b : Bool),
 v = Value.bool b ∧
 Br (!b)
 (CallA Try.prog fn_prisk_Guard_Fails [pointer g, int IntKind.i64 t56, slice none 0 0] h fun (v : Value) (h : Heap) =>
 ∃ (n : Int),
 v = int IntKind.i64 n ∧
 Br (n != 0) (Ret h K (Value.bool false))
 (Br b
 (0 ≤ t56 ∧
 t56 < (↑wasn : Int) ∧
 withAddr was fun (b o : Nat) =>
 ∃ (b_1 : Bool),
 Heap.cell h b (o + Int.toNat t56) = some (Value.bool b_1) ∧
 Br (!b_1)
 (∃ (n : Int),
 Heap.cell h x 0 = some (int IntKind.i64 n) ∧
 Br (n != 2)
 (∃ (n : Int),
 Heap.cell h x 0 = some (int IntKind.i64 n) ∧
 Br (n != 3)
 (∃ (n : Int),
 Heap.cell h x 0 = some (int IntKind.i64 n) ∧
 Br (n != 5)
 (∃ (n : Int),
 Heap.cell h x 0 = some (int IntKind.i64 n) ∧
 Br (n != 6) (Ret h K (Value.bool false)) (L_law10_RiskHolds_2 limits limitsn limitsc g x was wasn wasc t26 t26n t26c t27 t28 t55 (IntKind.wrap IntKind.i64 (t56 + 1)) h K))
 (L_law10_RiskHolds_2 limits limitsn limitsc g x was wasn wasc t26 t26n t26c t27 t28 t55 (IntKind.wrap IntKind.i64 (t56 + 1)) h K))
 (L_law10_RiskHolds_2 limits limitsn limitsc g x was wasn wasc t26 t26n t26c t27 t28 t55 (IntKind.wrap IntKind.i64 (t56 + 1)) h K))
 (L_law10_RiskHolds_2 limits limitsn limitsc g x was wasn wasc t26 t26n t26c t27 t28 t55 (IntKind.wrap IntKind.i64 (t56 + 1)) h K))
 (L_law10_RiskHolds_2 limits limitsn limitsc g x was wasn wasc t26 t26n t26c t27 t28 t55 (IntKind.wrap IntKind.i64 (t56 + 1)) h K))
 (L_law10_RiskHolds_2 limits limitsn limitsc g x was wasn wasc t26 t26n t26c t27 t28 t55 (IntKind.wrap IntKind.i64 (t56 + 1)) h K)))
 (Br b
 (0 ≤ t56 ∧
 t56 < (↑wasn : Int) ∧
 withAddr was fun (b o : Nat) =>
 ∃ (b_1 : Bool),
 Heap.cell h b (o + Int.toNat t56) = some (Value.bool b_1) ∧
 Br (!b_1)
 (∃ (n : Int),
 Heap.cell h x 0 = some (int IntKind.i64 n) ∧
 Br (n != 2)
 (∃ (n : Int),
 Heap.cell h x 0 = some (int IntKind.i64 n) ∧
 Br (n != 3)
 (∃ (n : Int),
 Heap.cell h x 0 = some (int IntKind.i64 n) ∧
 Br (n != 5)
 (∃ (n : Int),
 Heap.cell h x 0 = some (int IntKind.i64 n) ∧
 Br (n != 6) (Ret h K (Value.bool false)) (L_law10_RiskHolds_2 limits limitsn limitsc g x was wasn wasc t26 t26n t26c t27 t28 t55 (IntKind.wrap IntKind.i64 (t56 + 1)) h K))
 (L_law10_RiskHolds_2 limits limitsn limitsc g x was wasn wasc t26 t26n t26c t27 t28 t55 (IntKind.wrap IntKind.i64 (t56 + 1)) h K))
 (L_law10_RiskHolds_2 limits limitsn limitsc g x was wasn wasc t26 t26n t26c t27 t28 t55 (IntKind.wrap IntKind.i64 (t56 + 1)) h K))
 (L_law10_RiskHolds_2 limits limitsn limitsc g x was wasn wasc t26 t26n t26c t27 t28 t55 (IntKind.wrap IntKind.i64 (t56 + 1)) h K))
 (L_law10_RiskHolds_2 limits limitsn limitsc g x was wasn wasc t26 t26n t26c t27 t28 t55 (IntKind.wrap IntKind.i64 (t56 + 1)) h K))
 (L_law10_RiskHolds_2 limits limitsn limitsc g x was wasn wasc t26 t26n t26c t27 t28 t55 (IntKind.wrap IntKind.i64 (t56 + 1)) h K)))
 (L_law10_RiskHolds_0 limits limitsn limitsc g t26 t26n t26c t27 (IntKind.wrap IntKind.i64 (t28 + 1)) h K)
theorem L_law10_RiskHolds_2r (limits : Option Addr) (limitsn : Nat) (limitsc : Nat) (g : Option Addr) (x : Nat) (was : Option Addr) (wasn : Nat) (wasc : Nat) (t26 : Option Addr) (t26n : Nat) (t26c : Nat) (t27 : Int) (t28 : Int) (t55 : Int) (t56 : Int) (h : Heap) (K : Value → Heap → Prop) (k : L_law10_RiskHolds_2T limits limitsn limitsc g x was wasn wasc t26 t26n t26c t27 t28 t55 t56 h K) : L_law10_RiskHolds_2 limits limitsn limitsc g x was wasn wasc t26 t26n t26c t27 t28 t55 t56 h K :=
 LoopAt.of_ev (cs := []) Try.func11 mixed (fun junk => by kernel_rfl) k
def F_law10_RiskHoldsT (t : Option Addr) (tn : Nat) (tc : Nat) (limits : Option Addr) (limitsn : Nat) (limitsc : Nat) (ops : Option Addr) (opsn : Nat) (opsc : Nat) (h : Heap) (K : Value → Heap → Prop) : Prop :=
 CallA Try.prog fn_law10_awake [] h fun (v : Value) (h : Heap) =>
 ∃ (b : Bool),
 v = Value.bool b ∧
 Br (!b) (Ret h K (Value.bool false))
 (CallA Try.prog fn_law10_large [slice t tn tc, slice limits limitsn limitsc, slice ops opsn opsc] h fun (v : Value) (h : Heap) =>
 ∃ (b : Bool),
 v = Value.bool b ∧
 Br b (Ret h K (Value.bool true))
 (CallA Try.prog fn_law10_made [slice t tn tc, slice limits limitsn limitsc] h fun (v : Value) (h : Heap) =>
 ∃ (a : Option Addr), v = pointer a ∧ Br (Option.isNone a) (Ret h K (Value.bool true)) (L_law10_RiskHolds_0 limits limitsn limitsc a ops opsn opsc (↑opsn : Int) 0 h K)))
theorem F_law10_RiskHolds (t : Option Addr) (tn : Nat) (tc : Nat) (limits : Option Addr) (limitsn : Nat) (limitsc : Nat) (ops : Option Addr) (opsn : Nat) (opsc : Nat) (h : Heap) (K : Value → Heap → Prop) (k : F_law10_RiskHoldsT t tn tc limits limitsn limitsc ops opsn opsc h K) : CallA Try.prog fn_law10_RiskHolds [slice t tn tc, slice limits limitsn limitsc, slice ops opsn opsc] h K :=
 CallA.of_ev (cs := []) Try.func11 (by kernel_rfl) (fun _ _ => Try.call11 _ _) mixed (by kernel_rfl) (by kernel_rfl) k
end Go.Proofs.Ytghdadniddoboaa

namespace Go.Proofs.Ytghdadniddoboaa
open Go Go.Sy Go.Value
set_option linter.unusedVariables false
set_option maxRecDepth 100000
def L_law10_RiskSpares_0 (t : Option Addr) (tn : Nat) (tc : Nat) (limits : Option Addr) (limitsn : Nat) (limitsc : Nat) (g : Option Addr) (l : Option Addr) (t35 : Option Addr) (t35n : Nat) (t35c : Nat) (t36 : Int) (t37 : Int) (h : Heap) (K : Value → Heap → Prop) : Prop :=
 LoopAt Try.prog Try.f12 12 (loopK Try.f12 0) (sp 157 [(0, slice t tn tc), (1, slice limits limitsn limitsc), (7, pointer g), (8, pointer l), (35, slice t35 t35n t35c), (36, int IntKind.i64 t36), (37, int IntKind.i64 t37)]) h K
def L_law10_RiskSpares_1 (t : Option Addr) (tn : Nat) (tc : Nat) (limits : Option Addr) (limitsn : Nat) (limitsc : Nat) (g : Option Addr) (l : Option Addr) (x : Nat) (was : Option Addr) (wasn : Nat) (wasc : Nat) (flags : Option Addr) (flagsn : Nat) (flagsc : Nat) (t35 : Option Addr) (t35n : Nat) (t35c : Nat) (t36 : Int) (t37 : Int) (t42 : Int) (t43 : Int) (h : Heap) (K : Value → Heap → Prop) : Prop :=
 LoopAt Try.prog Try.f12 12 (loopK Try.f12 1) (sp 157 [(0, slice t tn tc), (1, slice limits limitsn limitsc), (7, pointer g), (8, pointer l), (10, pointer (some { block := x, off := 0 })), (11, slice was wasn wasc), (12, slice flags flagsn flagsc),
 (35, slice t35 t35n t35c), (36, int IntKind.i64 t36), (37, int IntKind.i64 t37), (42, int IntKind.i64 t42), (43, int IntKind.i64 t43)]) h K
def L_law10_RiskSpares_2 (t : Option Addr) (tn : Nat) (tc : Nat) (limits : Option Addr) (limitsn : Nat) (limitsc : Nat) (g : Option Addr) (l : Option Addr) (x : Nat) (was : Option Addr) (wasn : Nat) (wasc : Nat) (flags : Option Addr) (flagsn : Nat) (flagsc : Nat) (m : Int) (row : Option Addr) (rown : Nat) (rowc : Nat) (t35 : Option Addr) (t35n : Nat) (t35c : Nat) (t36 : Int) (t37 : Int) (t42 : Int) (t43 : Int) (t47 : Int) (t48 : Int) (h : Heap) (K : Value → Heap → Prop) : Prop :=
 LoopAt Try.prog Try.f12 12 (loopK Try.f12 2) (sp 157 [(0, slice t tn tc), (1, slice limits limitsn limitsc), (7, pointer g), (8, pointer l), (10, pointer (some { block := x, off := 0 })), (11, slice was wasn wasc), (12, slice flags flagsn flagsc), (13, int IntKind.i64 m),
 (14, slice row rown rowc), (35, slice t35 t35n t35c), (36, int IntKind.i64 t36), (37, int IntKind.i64 t37), (42, int IntKind.i64 t42), (43, int IntKind.i64 t43), (47, int IntKind.i64 t47), (48, int IntKind.i64 t48)]) h K
def L_law10_RiskSpares_3 (t : Option Addr) (tn : Nat) (tc : Nat) (limits : Option Addr) (limitsn : Nat) (limitsc : Nat) (g : Option Addr) (l : Option Addr) (x : Nat) (was : Option Addr) (wasn : Nat) (wasc : Nat) (flags : Option Addr) (flagsn : Nat) (flagsc : Nat) (e : Int) (t35 : Option Addr) (t35n : Nat) (t35c : Nat) (t36 : Int) (t37 : Int) (t74 : Int) (t75 : Int) (h : Heap) (K : Value → Heap → Prop) : Prop :=
 LoopAt Try.prog Try.f12 12 (loopK Try.f12 3) (sp 157 [(0, slice t tn tc), (1, slice limits limitsn limitsc), (7, pointer g), (8, pointer l), (10, pointer (some { block := x, off := 0 })), (11, slice was wasn wasc), (12, slice flags flagsn flagsc), (16, int IntKind.i64 e),
 (35, slice t35 t35n t35c), (36, int IntKind.i64 t36), (37, int IntKind.i64 t37), (74, int IntKind.i64 t74), (75, int IntKind.i64 t75)]) h K
def L_law10_RiskSpares_4 (t : Option Addr) (tn : Nat) (tc : Nat) (limits : Option Addr) (limitsn : Nat) (limitsc : Nat) (g : Option Addr) (l : Option Addr) (x : Nat) (was : Option Addr) (wasn : Nat) (wasc : Nat) (flags : Option Addr) (flagsn : Nat) (flagsc : Nat) (e : Int) (m : Int) (t35 : Option Addr) (t35n : Nat) (t35c : Nat) (t36 : Int) (t37 : Int) (t74 : Int) (t75 : Int) (t79 : Int) (t80 : Int) (h : Heap) (K : Value → Heap → Prop) : Prop :=
 LoopAt Try.prog Try.f12 12 (loopK Try.f12 4) (sp 157 [(0, slice t tn tc), (1, slice limits limitsn limitsc), (7, pointer g), (8, pointer l), (10, pointer (some { block := x, off := 0 })), (11, slice was wasn wasc), (12, slice flags flagsn flagsc), (16, int IntKind.i64 e),
 (17, int IntKind.i64 m), (35, slice t35 t35n t35c), (36, int IntKind.i64 t36), (37, int IntKind.i64 t37), (74, int IntKind.i64 t74), (75, int IntKind.i64 t75), (79, int IntKind.i64 t79), (80, int IntKind.i64 t80)]) h K
def L_law10_RiskSpares_0T (t : Option Addr) (tn : Nat) (tc : Nat) (limits : Option Addr) (limitsn : Nat) (limitsc : Nat) (g : Option Addr) (l : Option Addr) (t35 : Option Addr) (t35n : Nat) (t35c : Nat) (t36 : Int) (t37 : Int) (h : Heap) (K : Value → Heap → Prop) : Prop :=
 Br (decide (t37 < t36))
 (0 ≤ t37 ∧
 t37 < (↑t35n : Int) ∧
 withAddr t35 fun (b o : Nat) =>
 ∃ (n : Int),
 Heap.cell h b (o + Int.toNat t37 * 7) = some (int IntKind.i64 n) ∧
 ∃ (n_1 : Int),
 Heap.cell h b (o + Int.toNat t37 * 7 + 1) = some (int IntKind.i64 n_1) ∧
 ∃ (n_2 : Int),
 Heap.cell h b (o + Int.toNat t37 * 7 + 2) = some (int IntKind.i64 n_2) ∧
 ∃ (n_3 : Int),
 Heap.cell h b (o + Int.toNat t37 * 7 + 3) = some (int IntKind.i64 n_3) ∧
 ∃ (n_4 : Int),
 Heap.cell h b (o + Int.toNat t37 * 7 + 4) = some (int IntKind.i64 n_4) ∧
 ∃ (n_5 : Int),
 Heap.cell h b (o + Int.toNat t37 * 7 + 5) = some (int IntKind.i64 n_5) ∧
 ∃ (a : Option Addr),
 ∃ (n_6 : Nat),
 ∃ (m : Nat),
 Heap.cell h b (o + Int.toNat t37 * 7 + 6) = some (slice a n_6 m) ∧
 newB h [int IntKind.i64 0, int IntKind.i64 0, int IntKind.i64 0, int IntKind.i64 0, int IntKind.i64 0, int IntKind.i64 0, slice none 0 0] 83 fun (r : Nat) (h : Heap) =>
 Heap.canSt h r 0 7 ∧
 L_law10_RiskSpares_1 t tn tc limits limitsn limitsc g l r none 0 0 none 0 0 t35 t35n t35c t36 t37 (↑limitsn : Int) 0
 (Heap.setN h r 0 [int IntKind.i64 n, int IntKind.i64 n_1, int IntKind.i64 n_2, int IntKind.i64 n_3, int IntKind.i64 n_4, int IntKind.i64 n_5, slice a n_6 m]) K)
 (Ret h K (Value.bool true))
theorem L_law10_RiskSpares_0r (t : Option Addr) (tn : Nat) (tc : Nat) (limits : Option Addr) (limitsn : Nat) (limitsc : Nat) (g : Option Addr) (l : Option Addr) (t35 : Option Addr) (t35n : Nat) (t35c : Nat) (t36 : Int) (t37 : Int) (h : Heap) (K : Value → Heap → Prop) (k : L_law10_RiskSpares_0T t tn tc limits limitsn limitsc g l t35 t35n t35c t36 t37 h K) : L_law10_RiskSpares_0 t tn tc limits limitsn limitsc g l t35 t35n t35c t36 t37 h K :=
 LoopAt.of_ev (cs := []) Try.func12 mixed (fun junk => by kernel_rfl) k
def L_law10_RiskSpares_1T (t : Option Addr) (tn : Nat) (tc : Nat) (limits : Option Addr) (limitsn : Nat) (limitsc : Nat) (g : Option Addr) (l : Option Addr) (x : Nat) (was : Option Addr) (wasn : Nat) (wasc : Nat) (flags : Option Addr) (flagsn : Nat) (flagsc : Nat) (t35 : Option Addr) (t35n : Nat) (t35c : Nat) (t36 : Int) (t37 : Int) (t42 : Int) (t43 : Int) (h : Heap) (K : Value → Heap → Prop) : Prop :=
 Br (decide (t43 < t42)) (L_law10_RiskSpares_2 t tn tc limits limitsn limitsc g l x was wasn wasc flags flagsn flagsc t43 none 0 0 t35 t35n t35c t36 t37 t42 t43 (↑tn : Int) 0 h K)
 (∃ (n : Int),
 Heap.cell h x 0 = some (int IntKind.i64 n) ∧
 ∃ (n_1 : Int),
 Heap.cell h x 1 = some (int IntKind.i64 n_1) ∧
 ∃ (n_2 : Int),
 Heap.cell h x 2 = some (int IntKind.i64 n_2) ∧
 ∃ (n_3 : Int),
 Heap.cell h x 3 = some (int IntKind.i64 n_3) ∧
 ∃ (n_4 : Int),
 Heap.cell h x 4 = some (int IntKind.i64 n_4) ∧
 ∃ (n_5 : Int),
 Heap.cell h x 5 = some (int IntKind.i64 n_5) ∧
 ∃ (a : Option Addr),
 ∃ (n_6 : Nat),
 ∃ (m : Nat),
 Heap.cell h x 6 = some (slice a n_6 m) ∧
 CallA Try.prog fn_law10_do [pointer g, agg #[int IntKind.i64 n, int IntKind.i64 n_1, int IntKind.i64 n_2, int IntKind.i64 n_3, int IntKind.i64 n_4, int IntKind.i64 n_5, slice a n_6 m]] h
 fun (v : Value) (h : Heap) =>
 ∃ (n : Int), v = int IntKind.i64 n ∧ L_law10_RiskSpares_3 t tn tc limits limitsn limitsc g l x was wasn wasc flags flagsn flagsc n t35 t35n t35c t36 t37 (↑limitsn : Int) 0 h K)
theorem L_law10_RiskSpares_1r (t : Option Addr) (tn : Nat) (tc : Nat) (limits : Option Addr) (limitsn : Nat) (limitsc : Nat) (g : Option Addr) (l : Option Addr) (x : Nat) (was : Option Addr) (wasn : Nat) (wasc : Nat) (flags : Option Addr) (flagsn : Nat) (flagsc : Nat) (t35 : Option Addr) (t35n : Nat) (t35c : Nat) (t36 : Int) (t37 : Int) (t42 : Int) (t43 : Int) (h : Heap) (K : Value → Heap → Prop) (k : L_law10_RiskSpares_1T t tn tc limits limitsn limitsc g l x was wasn wasc flags flagsn flagsc t35 t35n t35c t36 t37 t42 t43 h K) : L_law10_RiskSpares_1 t tn tc limits limitsn limitsc g l x was wasn wasc flags flagsn flagsc t35 t35n t35c t36 t37 t42 t43 h K :=
 LoopAt.of_ev (cs := []) Try.func12 mixed (fun junk => by kernel_rfl) k
def L_law10_RiskSpares_2T (t : Option Addr) (tn : Nat) (tc : Nat) (limits : Option Addr) (limitsn : Nat) (limitsc : Nat) (g : Option Addr) (l : Option Addr) (x : Nat) (was : Option Addr) (wasn : Nat) (wasc : Nat) (flags : Option Addr) (flagsn : Nat) (flagsc : Nat) (m : Int) (row : Option Addr) (rown : Nat) (rowc : Nat) (t35 : Option Addr) (t35n : Nat) (t35c : Nat) (t36 : Int) (t37 : Int) (t42 : Int) (t43 : Int) (t47 : Int) (t48 : Int) (h : Heap) (K : Value → Heap → Prop) : Prop :=
 Br (decide (t48 < t47))
 (CallA Try.prog fn_pledger_Ledger_Get [pointer l, int IntKind.i64 m, int IntKind.i64 t48] h fun (v : Value) (h : Heap) =>
 ∃ (n : Int),
 v = int IntKind.i64 n ∧
 newB h [int IntKind.i64 n] 2 fun (r : Nat) (h : Heap) =>
 AppA [int IntKind.i64 0] 2 h row rown rowc 1 (some { block := r, off := 0 }) fun (ap : Option Addr) (cp : Nat) (h : Heap) =>
 L_law10_RiskSpares_2 t tn tc limits limitsn limitsc g l x was wasn wasc flags flagsn flagsc m ap (rown + 1) cp t35 t35n t35c t36 t37 t42 t43 t47 (IntKind.wrap IntKind.i64 (t48 + 1)) h K)
 (newB h [slice row rown rowc] 22 fun (r : Nat) (h : Heap) =>
 AppA [slice none 0 0] 22 h was wasn wasc 1 (some { block := r, off := 0 }) fun (ap : Option Addr) (cp : Nat) (h : Heap) =>
 CallA Try.prog fn_prisk_Guard_Flagged [pointer g, int IntKind.i64 m] h fun (v : Value) (h : Heap) =>
 ∃ (b : Bool),
 v = Value.bool b ∧
 newB h [Value.bool b] 4 fun (r : Nat) (h : Heap) =>
 AppA [Value.bool false] 4 h flags flagsn flagsc 1 (some { block := r, off := 0 }) fun (ap_1 : Option Addr) (cp_1 : Nat) (h : Heap) =>
 L_law10_RiskSpares_1 t tn tc limits limitsn limitsc g l x ap (wasn + 1) cp ap_1 (flagsn + 1) cp_1 t35 t35n t35c t36 t37 t42 (IntKind.wrap IntKind.i64 (t43 + 1)) h K)
theorem L_law10_RiskSpares_2r (t : Option Addr) (tn : Nat) (tc : Nat) (limits : Option Addr) (limitsn : Nat) (limitsc : Nat) (g : Option Addr) (l : Option Addr) (x : Nat) (was : Option Addr) (wasn : Nat) (wasc : Nat) (flags : Option Addr) (flagsn : Nat) (flagsc : Nat) (m : Int) (row : Option Addr) (rown : Nat) (rowc : Nat) (t35 : Option Addr) (t35n : Nat) (t35c : Nat) (t36 : Int) (t37 : Int) (t42 : Int) (t43 : Int) (t47 : Int) (t48 : Int) (h : Heap) (K : Value → Heap → Prop) (k : L_law10_RiskSpares_2T t tn tc limits limitsn limitsc g l x was wasn wasc flags flagsn flagsc m row rown rowc t35 t35n t35c t36 t37 t42 t43 t47 t48 h K) : L_law10_RiskSpares_2 t tn tc limits limitsn limitsc g l x was wasn wasc flags flagsn flagsc m row rown rowc t35 t35n t35c t36 t37 t42 t43 t47 t48 h K :=
 LoopAt.of_ev (cs := []) Try.func12 mixed (fun junk => by kernel_rfl) k
def L_law10_RiskSpares_3T (t : Option Addr) (tn : Nat) (tc : Nat) (limits : Option Addr) (limitsn : Nat) (limitsc : Nat) (g : Option Addr) (l : Option Addr) (x : Nat) (was : Option Addr) (wasn : Nat) (wasc : Nat) (flags : Option Addr) (flagsn : Nat) (flagsc : Nat) (e : Int) (t35 : Option Addr) (t35n : Nat) (t35c : Nat) (t36 : Int) (t37 : Int) (t74 : Int) (t75 : Int) (h : Heap) (K : Value → Heap → Prop) : Prop :=
 Br (decide (t75 < t74)) (L_law10_RiskSpares_4 t tn tc limits limitsn limitsc g l x was wasn wasc flags flagsn flagsc e t75 t35 t35n t35c t36 t37 t74 t75 (↑tn : Int) 0 h K)
 (L_law10_RiskSpares_0 t tn tc limits limitsn limitsc g l t35 t35n t35c t36 (IntKind.wrap IntKind.i64 (t37 + 1)) h K)
theorem L_law10_RiskSpares_3r (t : Option Addr) (tn : Nat) (tc : Nat) (limits : Option Addr) (limitsn : Nat) (limitsc : Nat) (g : Option Addr) (l : Option Addr) (x : Nat) (was : Option Addr) (wasn : Nat) (wasc : Nat) (flags : Option Addr) (flagsn : Nat) (flagsc : Nat) (e : Int) (t35 : Option Addr) (t35n : Nat) (t35c : Nat) (t36 : Int) (t37 : Int) (t74 : Int) (t75 : Int) (h : Heap) (K : Value → Heap → Prop) (k : L_law10_RiskSpares_3T t tn tc limits limitsn limitsc g l x was wasn wasc flags flagsn flagsc e t35 t35n t35c t36 t37 t74 t75 h K) : L_law10_RiskSpares_3 t tn tc limits limitsn limitsc g l x was wasn wasc flags flagsn flagsc e t35 t35n t35c t36 t37 t74 t75 h K :=
 LoopAt.of_ev (cs := []) Try.func12 mixed (fun junk => by kernel_rfl) k
def L_law10_RiskSpares_4T (t : Option Addr) (tn : Nat) (tc : Nat) (limits : Option Addr) (limitsn : Nat) (limitsc : Nat) (g : Option Addr) (l : Option Addr) (x : Nat) (was : Option Addr) (wasn : Nat) (wasc : Nat) (flags : Option Addr) (flagsn : Nat) (flagsc : Nat) (e : Int) (m : Int) (t35 : Option Addr) (t35n : Nat) (t35c : Nat) (t36 : Int) (t37 : Int) (t74 : Int) (t75 : Int) (t79 : Int) (t80 : Int) (h : Heap) (K : Value → Heap → Prop) : Prop :=
 Br (decide (t80 < t79))
 (CallA Try.prog fn_pledger_Ledger_Get [pointer l, int IntKind.i64 m, int IntKind.i64 t80] h fun (v : Value) (h : Heap) =>
 ∃ (n : Int),
 v = int IntKind.i64 n ∧
 Br (e != 0)
 (0 ≤ m ∧
 m < (↑wasn : Int) ∧
 withAddr was fun (b o : Nat) =>
 ∃ (a : Option Addr),
 ∃ (n_1 : Nat),
 ∃ (m_1 : Nat),
 Heap.cell h b (o + Int.toNat m) = some (slice a n_1 m_1) ∧
 0 ≤ t80 ∧
 t80 < (↑n_1 : Int) ∧
 withAddr a fun (b o : Nat) =>
 ∃ (n_2 : Int),
 Heap.cell h b (o + Int.toNat t80) = some (int IntKind.i64 n_2) ∧
 Br (n != n_2) (Ret h K (Value.bool false))
 (0 ≤ m ∧
 m < (↑flagsn : Int) ∧
 withAddr flags fun (b o : Nat) =>
 ∃ (b_1 : Bool),
 Heap.cell h b (o + Int.toNat m) = some (Value.bool b_1) ∧
 Br b_1
 (0 ≤ m ∧
 m < (↑wasn : Int) ∧
 withAddr was fun (b o : Nat) =>
 ∃ (a : Option Addr),
 ∃ (n_3 : Nat),
 ∃ (m_2 : Nat),
 Heap.cell h b (o + Int.toNat m) = some (slice a n_3 m_2) ∧
 0 ≤ t80 ∧
 t80 < (↑n_3 : Int) ∧
 withAddr a fun (b o : Nat) =>
 ∃ (n_4 : Int),
 Heap.cell h b (o + Int.toNat t80) = some (int IntKind.i64 n_4) ∧
 Br (n != n_4)
 (∃ (n_5 : Int),
 Heap.cell h x 0 = some (int IntKind.i64 n_5) ∧
 Br (n_5 != 0)
 (∃ (n_6 : Int),
 Heap.cell h x 0 = some (int IntKind.i64 n_6) ∧
 Br (n_6 != 5)
 (∃ (n_7 : Int),
 Heap.cell h x 0 = some (int IntKind.i64 n_7) ∧
 Br (n_7 != 6) (Ret h K (Value.bool false))
 (0 ≤ m ∧
 m < (↑flagsn : Int) ∧
 withAddr flags fun (b o : Nat) =>
 ∃ (b_2 : Bool),
 Heap.cell h b (o + Int.toNat m) = some (Value.bool b_2) ∧
 Br b_2
 (0 ≤ m ∧
 m < (↑wasn : Int) ∧
 withAddr was fun (b o : Nat) =>
 ∃ (a : Option Addr),
 ∃ (n_8 : Nat),
 ∃ (m_3 : Nat),
 Heap.cell h b (o + Int.toNat m) = some (slice a n_8 m_3) ∧
 0 ≤ t80 ∧
 t80 < (↑n_8 : Int) ∧
 withAddr a fun (b o : Nat) =>
 ∃ (n_9 : Int),
 Heap.cell h b (o + Int.toNat t80) = some (int IntKind.i64 n_9) ∧
 Br (decide (n < n_9))
 (∃ (n : Int),
 Heap.cell h x 0 = some (int IntKind.i64 n) ∧
 Br (n == 0) (Ret h K (Value.bool false))
 (L_law10_RiskSpares_4 t tn tc limits limitsn limitsc g l x was wasn wasc flags flagsn flagsc e m
 t35 t35n t35c t36 t37 t74 t75 t79 (IntKind.wrap IntKind.i64 (t80 + 1)) h K))
 (L_law10_RiskSpares_4 t tn tc limits limitsn limitsc g l x was wasn wasc flags flagsn flagsc e m t35 t35n
 t35c t36 t37 t74 t75 t79 (IntKind.wrap IntKind.i64 (t80 + 1)) h K))
 (L_law10_RiskSpares_4 t tn tc limits limitsn limitsc g l x was wasn wasc flags flagsn flagsc e m t35 t35n t35c t36 t37 t74 t75 t79
 (IntKind.wrap IntKind.i64 (t80 + 1)) h K)))
 (0 ≤ m ∧
 m < (↑flagsn : Int) ∧
 withAddr flags fun (b o : Nat) =>
 ∃ (b_2 : Bool),
 Heap.cell h b (o + Int.toNat m) = some (Value.bool b_2) ∧
 Br b_2
 (0 ≤ m ∧
 m < (↑wasn : Int) ∧
 withAddr was fun (b o : Nat) =>
 ∃ (a : Option Addr),
 ∃ (n_7 : Nat),
 ∃ (m_3 : Nat),
 Heap.cell h b (o + Int.toNat m) = some (slice a n_7 m_3) ∧
 0 ≤ t80 ∧
 t80 < (↑n_7 : Int) ∧
 withAddr a fun (b o : Nat) =>
 ∃ (n_8 : Int),
 Heap.cell h b (o + Int.toNat t80) = some (int IntKind.i64 n_8) ∧
 Br (decide (n < n_8))
 (∃ (n : Int),
 Heap.cell h x 0 = some (int IntKind.i64 n) ∧
 Br (n == 0) (Ret h K (Value.bool false))
 (L_law10_RiskSpares_4 t tn tc limits limitsn limitsc g l x was wasn wasc flags flagsn flagsc e m t35 t35n
 t35c t36 t37 t74 t75 t79 (IntKind.wrap IntKind.i64 (t80 + 1)) h K))
 (L_law10_RiskSpares_4 t tn tc limits limitsn limitsc g l x was wasn wasc flags flagsn flagsc e m t35 t35n t35c
 t36 t37 t74 t75 t79 (IntKind.wrap IntKind.i64 (t80 + 1)) h K))
 (L_law10_RiskSpares_4 t tn tc limits limitsn limitsc g l x was wasn wasc flags flagsn flagsc e m t35 t35n t35c t36 t37 t74 t75 t79
 (IntKind.wrap IntKind.i64 (t80 + 1)) h K)))
 (0 ≤ m ∧
 m < (↑flagsn : Int) ∧
 withAddr flags fun (b o : Nat) =>
 ∃ (b_2 : Bool),
 Heap.cell h b (o + Int.toNat m) = some (Value.bool b_2) ∧
 Br b_2
 (0 ≤ m ∧
 m < (↑wasn : Int) ∧
 withAddr was fun (b o : Nat) =>
 ∃ (a : Option Addr),
 ∃ (n_6 : Nat),
 ∃ (m_3 : Nat),
 Heap.cell h b (o + Int.toNat m) = some (slice a n_6 m_3) ∧
 0 ≤ t80 ∧
 t80 < (↑n_6 : Int) ∧
 withAddr a fun (b o : Nat) =>
 ∃ (n_7 : Int),
 Heap.cell h b (o + Int.toNat t80) = some (int IntKind.i64 n_7) ∧
 Br (decide (n < n_7))
 (∃ (n : Int),
 Heap.cell h x 0 = some (int IntKind.i64 n) ∧
 Br (n == 0) (Ret h K (Value.bool false))
 (L_law10_RiskSpares_4 t tn tc limits limitsn limitsc g l x was wasn wasc flags flagsn flagsc e m t35 t35n t35c
 t36 t37 t74 t75 t79 (IntKind.wrap IntKind.i64 (t80 + 1)) h K))
 (L_law10_RiskSpares_4 t tn tc limits limitsn limitsc g l x was wasn wasc flags flagsn flagsc e m t35 t35n t35c t36
 t37 t74 t75 t79 (IntKind.wrap IntKind.i64 (t80 + 1)) h K))
 (L_law10_RiskSpares_4 t tn tc limits limitsn limitsc g l x was wasn wasc flags flagsn flagsc e m t35 t35n t35c t36 t37 t74 t75 t79
 (IntKind.wrap IntKind.i64 (t80 + 1)) h K)))
 (0 ≤ m ∧
 m < (↑flagsn : Int) ∧
 withAddr flags fun (b o : Nat) =>
 ∃ (b_2 : Bool),
 Heap.cell h b (o + Int.toNat m) = some (Value.bool b_2) ∧
 Br b_2
 (0 ≤ m ∧
 m < (↑wasn : Int) ∧
 withAddr was fun (b o : Nat) =>
 ∃ (a : Option Addr),
 ∃ (n_5 : Nat),
 ∃ (m_3 : Nat),
 Heap.cell h b (o + Int.toNat m) = some (slice a n_5 m_3) ∧
 0 ≤ t80 ∧
 t80 < (↑n_5 : Int) ∧
 withAddr a fun (b o : Nat) =>
 ∃ (n_6 : Int),
 Heap.cell h b (o + Int.toNat t80) = some (int IntKind.i64 n_6) ∧
 Br (decide (n < n_6))
 (∃ (n : Int),
 Heap.cell h x 0 = some (int IntKind.i64 n) ∧
 Br (n == 0) (Ret h K (Value.bool false))
 (L_law10_RiskSpares_4 t tn tc limits limitsn limitsc g l x was wasn wasc flags flagsn flagsc e m t35 t35n t35c t36
 t37 t74 t75 t79 (IntKind.wrap IntKind.i64 (t80 + 1)) h K))
 (L_law10_RiskSpares_4 t tn tc limits limitsn limitsc g l x was wasn wasc flags flagsn flagsc e m t35 t35n t35c t36 t37 t74
 t75 t79 (IntKind.wrap IntKind.i64 (t80 + 1)) h K))
 (L_law10_RiskSpares_4 t tn tc limits limitsn limitsc g l x was wasn wasc flags flagsn flagsc e m t35 t35n t35c t36 t37 t74 t75 t79
 (IntKind.wrap IntKind.i64 (t80 + 1)) h K)))
 (0 ≤ m ∧
 m < (↑flagsn : Int) ∧
 withAddr flags fun (b o : Nat) =>
 ∃ (b_2 : Bool),
 Heap.cell h b (o + Int.toNat m) = some (Value.bool b_2) ∧
 Br b_2
 (0 ≤ m ∧
 m < (↑wasn : Int) ∧
 withAddr was fun (b o : Nat) =>
 ∃ (a : Option Addr),
 ∃ (n_3 : Nat),
 ∃ (m_2 : Nat),
 Heap.cell h b (o + Int.toNat m) = some (slice a n_3 m_2) ∧
 0 ≤ t80 ∧
 t80 < (↑n_3 : Int) ∧
 withAddr a fun (b o : Nat) =>
 ∃ (n_4 : Int),
 Heap.cell h b (o + Int.toNat t80) = some (int IntKind.i64 n_4) ∧
 Br (decide (n < n_4))
 (∃ (n : Int),
 Heap.cell h x 0 = some (int IntKind.i64 n) ∧
 Br (n == 0) (Ret h K (Value.bool false))
 (L_law10_RiskSpares_4 t tn tc limits limitsn limitsc g l x was wasn wasc flags flagsn flagsc e m t35 t35n t35c t36 t37 t74 t75 t79
 (IntKind.wrap IntKind.i64 (t80 + 1)) h K))
 (L_law10_RiskSpares_4 t tn tc limits limitsn limitsc g l x was wasn wasc flags flagsn flagsc e m t35 t35n t35c t36 t37 t74 t75 t79
 (IntKind.wrap IntKind.i64 (t80 + 1)) h K))
 (L_law10_RiskSpares_4 t tn tc limits limitsn limitsc g l x was wasn wasc flags flagsn flagsc e m t35 t35n t35c t36 t37 t74 t75 t79 (IntKind.wrap IntKind.i64 (t80 + 1)) h K))))
 (0 ≤ m ∧
 m < (↑flagsn : Int) ∧
 withAddr flags fun (b o : Nat) =>
 ∃ (b_1 : Bool),
 Heap.cell h b (o + Int.toNat m) = some (Value.bool b_1) ∧
 Br b_1
 (0 ≤ m ∧
 m < (↑wasn : Int) ∧
 withAddr was fun (b o : Nat) =>
 ∃ (a : Option Addr),
 ∃ (n_1 : Nat),
 ∃ (m_1 : Nat),
 Heap.cell h b (o + Int.toNat m) = some (slice a n_1 m_1) ∧
 0 ≤ t80 ∧
 t80 < (↑n_1 : Int) ∧
 withAddr a fun (b o : Nat) =>
 ∃ (n_2 : Int),
 Heap.cell h b (o + Int.toNat t80) = some (int IntKind.i64 n_2) ∧
 Br (n != n_2)
 (∃ (n_3 : Int),
 Heap.cell h x 0 = some (int IntKind.i64 n_3) ∧
 Br (n_3 != 0)
 (∃ (n_4 : Int),
 Heap.cell h x 0 = some (int IntKind.i64 n_4) ∧
 Br (n_4 != 5)
 (∃ (n_5 : Int),
 Heap.cell h x 0 = some (int IntKind.i64 n_5) ∧
 Br (n_5 != 6) (Ret h K (Value.bool false))
 (0 ≤ m ∧
 m < (↑flagsn : Int) ∧
 withAddr flags fun (b o : Nat) =>
 ∃ (b_2 : Bool),
 Heap.cell h b (o + Int.toNat m) = some (Value.bool b_2) ∧
 Br b_2
 (0 ≤ m ∧
 m < (↑wasn : Int) ∧
 withAddr was fun (b o : Nat) =>
 ∃ (a : Option Addr),
 ∃ (n_6 : Nat),
 ∃ (m_2 : Nat),
 Heap.cell h b (o + Int.toNat m) = some (slice a n_6 m_2) ∧
 0 ≤ t80 ∧
 t80 < (↑n_6 : Int) ∧
 withAddr a fun (b o : Nat) =>
 ∃ (n_7 : Int),
 Heap.cell h b (o + Int.toNat t80) = some (int IntKind.i64 n_7) ∧
 Br (decide (n < n_7))
 (∃ (n : Int),
 Heap.cell h x 0 = some (int IntKind.i64 n) ∧
 Br (n == 0) (Ret h K (Value.bool false))
 (L_law10_RiskSpares_4 t tn tc limits limitsn limitsc g l x was wasn wasc flags flagsn flagsc e m t35 t35n t35c t36 t37 t74
 t75 t79 (IntKind.wrap IntKind.i64 (t80 + 1)) h K))
 (L_law10_RiskSpares_4 t tn tc limits limitsn limitsc g l x was wasn wasc flags flagsn flagsc e m t35 t35n t35c t36 t37 t74 t75 t79
 (IntKind.wrap IntKind.i64 (t80 + 1)) h K))
 (L_law10_RiskSpares_4 t tn tc limits limitsn limitsc g l x was wasn wasc flags flagsn flagsc e m t35 t35n t35c t36 t37 t74 t75 t79
 (IntKind.wrap IntKind.i64 (t80 + 1)) h K)))
 (0 ≤ m ∧
 m < (↑flagsn : Int) ∧
 withAddr flags fun (b o : Nat) =>
 ∃ (b_2 : Bool),
 Heap.cell h b (o + Int.toNat m) = some (Value.bool b_2) ∧
 Br b_2
 (0 ≤ m ∧
 m < (↑wasn : Int) ∧
 withAddr was fun (b o : Nat) =>
 ∃ (a : Option Addr),
 ∃ (n_5 : Nat),
 ∃ (m_2 : Nat),
 Heap.cell h b (o + Int.toNat m) = some (slice a n_5 m_2) ∧
 0 ≤ t80 ∧
 t80 < (↑n_5 : Int) ∧
 withAddr a fun (b o : Nat) =>
 ∃ (n_6 : Int),
 Heap.cell h b (o + Int.toNat t80) = some (int IntKind.i64 n_6) ∧
 Br (decide (n < n_6))
 (∃ (n : Int),
 Heap.cell h x 0 = some (int IntKind.i64 n) ∧
 Br (n == 0) (Ret h K (Value.bool false))
 (L_law10_RiskSpares_4 t tn tc limits limitsn limitsc g l x was wasn wasc flags flagsn flagsc e m t35 t35n t35c t36 t37 t74 t75 t79
 (IntKind.wrap IntKind.i64 (t80 + 1)) h K))
 (L_law10_RiskSpares_4 t tn tc limits limitsn limitsc g l x was wasn wasc flags flagsn flagsc e m t35 t35n t35c t36 t37 t74 t75 t79
 (IntKind.wrap IntKind.i64 (t80 + 1)) h K))
 (L_law10_RiskSpares_4 t tn tc limits limitsn limitsc g l x was wasn wasc flags flagsn flagsc e m t35 t35n t35c t36 t37 t74 t75 t79
 (IntKind.wrap IntKind.i64 (t80 + 1)) h K)))
 (0 ≤ m ∧
 m < (↑flagsn : Int) ∧
 withAddr flags fun (b o : Nat) =>
 ∃ (b_2 : Bool),
 Heap.cell h b (o + Int.toNat m) = some (Value.bool b_2) ∧
 Br b_2
 (0 ≤ m ∧
 m < (↑wasn : Int) ∧
 withAddr was fun (b o : Nat) =>
 ∃ (a : Option Addr),
 ∃ (n_4 : Nat),
 ∃ (m_2 : Nat),
 Heap.cell h b (o + Int.toNat m) = some (slice a n_4 m_2) ∧
 0 ≤ t80 ∧
 t80 < (↑n_4 : Int) ∧
 withAddr a fun (b o : Nat) =>
 ∃ (n_5 : Int),
 Heap.cell h b (o + Int.toNat t80) = some (int IntKind.i64 n_5) ∧
 Br (decide (n < n_5))
 (∃ (n : Int),
 Heap.cell h x 0 = some (int IntKind.i64 n) ∧
 Br (n == 0) (Ret h K (Value.bool false))
 (L_law10_RiskSpares_4 t tn tc limits limitsn limitsc g l x was wasn wasc flags flagsn flagsc e m t35 t35n t35c t36 t37 t74 t75 t79
 (IntKind.wrap IntKind.i64 (t80 + 1)) h K))
 (L_law10_RiskSpares_4 t tn tc limits limitsn limitsc g l x was wasn wasc flags flagsn flagsc e m t35 t35n t35c t36 t37 t74 t75 t79
 (IntKind.wrap IntKind.i64 (t80 + 1)) h K))
 (L_law10_RiskSpares_4 t tn tc limits limitsn limitsc g l x was wasn wasc flags flagsn flagsc e m t35 t35n t35c t36 t37 t74 t75 t79 (IntKind.wrap IntKind.i64 (t80 + 1)) h
 K)))
 (0 ≤ m ∧
 m < (↑flagsn : Int) ∧
 withAddr flags fun (b o : Nat) =>
 ∃ (b_2 : Bool),
 Heap.cell h b (o + Int.toNat m) = some (Value.bool b_2) ∧
 Br b_2
 (0 ≤ m ∧
 m < (↑wasn : Int) ∧
 withAddr was fun (b o : Nat) =>
 ∃ (a : Option Addr),
 ∃ (n_3 : Nat),
 ∃ (m_2 : Nat),
 Heap.cell h b (o + Int.toNat m) = some (slice a n_3 m_2) ∧
 0 ≤ t80 ∧
 t80 < (↑n_3 : Int) ∧
 withAddr a fun (b o : Nat) =>
 ∃ (n_4 : Int),
 Heap.cell h b (o + Int.toNat t80) = some (int IntKind.i64 n_4) ∧
 Br (decide (n < n_4))
 (∃ (n : Int),
 Heap.cell h x 0 = some (int IntKind.i64 n) ∧
 Br (n == 0) (Ret h K (Value.bool false))
 (L_law10_RiskSpares_4 t tn tc limits limitsn limitsc g l x was wasn wasc flags flagsn flagsc e m t35 t35n t35c t36 t37 t74 t75 t79
 (IntKind.wrap IntKind.i64 (t80 + 1)) h K))
 (L_law10_RiskSpares_4 t tn tc limits limitsn limitsc g l x was wasn wasc flags flagsn flagsc e m t35 t35n t35c t36 t37 t74 t75 t79
 (IntKind.wrap IntKind.i64 (t80 + 1)) h K))
 (L_law10_RiskSpares_4 t tn tc limits limitsn limitsc g l x was wasn wasc flags flagsn flagsc e m t35 t35n t35c t36 t37 t74 t75 t79 (IntKind.wrap IntKind.i64 (t80 + 1)) h K)))
 (0 ≤ m ∧
 m < (↑flagsn : Int) ∧
 withAddr flags fun (b o : Nat) =>
 ∃ (b_2 : Bool),
 Heap.cell h b (o + Int.toNat m) = some (Value.bool b_2) ∧
 Br b_2
 (0 ≤ m ∧
 m < (↑wasn : Int) ∧
 withAddr was fun (b o : Nat) =>
 ∃ (a : Option Addr),
 ∃ (n_1 : Nat),
 ∃ (m_1 : Nat),
 Heap.cell h b (o + Int.toNat m) = some (slice a n_1 m_1) ∧
 0 ≤ t80 ∧
 t80 < (↑n_1 : Int) ∧
 withAddr a fun (b o : Nat) =>
 ∃ (n_2 : Int),
 Heap.cell h b (o + Int.toNat t80) = some (int IntKind.i64 n_2) ∧
 Br (decide (n < n_2))
 (∃ (n : Int),
 Heap.cell h x 0 = some (int IntKind.i64 n) ∧
 Br (n == 0) (Ret h K (Value.bool false))
 (L_law10_RiskSpares_4 t tn tc limits limitsn limitsc g l x was wasn wasc flags flagsn flagsc e m t35 t35n t35c t36 t37 t74 t75 t79 (IntKind.wrap IntKind.i64 (t80 + 1)) h
 K))
 (L_law10_RiskSpares_4 t tn tc limits limitsn limitsc g l x was wasn wasc flags flagsn flagsc e m t35 t35n t35c t36 t37 t74 t75 t79 (IntKind.wrap IntKind.i64 (t80 + 1)) h K))
 (L_law10_RiskSpares_4 t tn tc limits limitsn limitsc g l x was wasn wasc flags flagsn flagsc e m t35 t35n t35c t36 t37 t74 t75 t79 (IntKind.wrap IntKind.i64 (t80 + 1)) h K))))
 (L_law10_RiskSpares_3 t tn tc limits limitsn limitsc g l x was wasn wasc flags flagsn flagsc e t35 t35n t35c t36 t37 t74 (IntKind.wrap IntKind.i64 (t75 + 1)) h K)
theorem L_law10_RiskSpares_4r (t : Option Addr) (tn : Nat) (tc : Nat) (limits : Option Addr) (limitsn : Nat) (limitsc : Nat) (g : Option Addr) (l : Option Addr) (x : Nat) (was : Option Addr) (wasn : Nat) (wasc : Nat) (flags : Option Addr) (flagsn : Nat) (flagsc : Nat) (e : Int) (m : Int) (t35 : Option Addr) (t35n : Nat) (t35c : Nat) (t36 : Int) (t37 : Int) (t74 : Int) (t75 : Int) (t79 : Int) (t80 : Int) (h : Heap) (K : Value → Heap → Prop) (k : L_law10_RiskSpares_4T t tn tc limits limitsn limitsc g l x was wasn wasc flags flagsn flagsc e m t35 t35n t35c t36 t37 t74 t75 t79 t80 h K) : L_law10_RiskSpares_4 t tn tc limits limitsn limitsc g l x was wasn wasc flags flagsn flagsc e m t35 t35n t35c t36 t37 t74 t75 t79 t80 h K :=
 LoopAt.of_ev (cs := []) Try.func12 mixed (fun junk => by kernel_rfl) k
def F_law10_RiskSparesT (t : Option Addr) (tn : Nat) (tc : Nat) (limits : Option Addr) (limitsn : Nat) (limitsc : Nat) (ops : Option Addr) (opsn : Nat) (opsc : Nat) (h : Heap) (K : Value → Heap → Prop) : Prop :=
 CallA Try.prog fn_law10_awake [] h fun (v : Value) (h : Heap) =>
 ∃ (b : Bool),
 v = Value.bool b ∧
 Br (!b) (Ret h K (Value.bool false))
 (CallA Try.prog fn_law10_large [slice t tn tc, slice limits limitsn limitsc, slice ops opsn opsc] h fun (v : Value) (h : Heap) =>
 ∃ (b : Bool),
 v = Value.bool b ∧
 Br b (Ret h K (Value.bool true))
 (CallA Try.prog fn_law10_made [slice t tn tc, slice limits limitsn limitsc] h fun (v : Value) (h : Heap) =>
 ∃ (a : Option Addr),
 v = pointer a ∧
 Br (Option.isNone a) (Ret h K (Value.bool true))
 (CallA Try.prog fn_prisk_Guard_Ledger [pointer a] h fun (v : Value) (h : Heap) =>
 ∃ (a_1 : Option Addr), v = pointer a_1 ∧ Br (Option.isNone a_1) (Ret h K (Value.bool false)) (L_law10_RiskSpares_0 t tn tc limits limitsn limitsc a a_1 ops opsn opsc (↑opsn : Int) 0 h K))))
theorem F_law10_RiskSpares (t : Option Addr) (tn : Nat) (tc : Nat) (limits : Option Addr) (limitsn : Nat) (limitsc : Nat) (ops : Option Addr) (opsn : Nat) (opsc : Nat) (h : Heap) (K : Value → Heap → Prop) (k : F_law10_RiskSparesT t tn tc limits limitsn limitsc ops opsn opsc h K) : CallA Try.prog fn_law10_RiskSpares [slice t tn tc, slice limits limitsn limitsc, slice ops opsn opsc] h K :=
 CallA.of_ev (cs := []) Try.func12 (by kernel_rfl) (fun _ _ => Try.call12 _ _) mixed (by kernel_rfl) (by kernel_rfl) k
end Go.Proofs.Ytghdadniddoboaa
