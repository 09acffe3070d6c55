import Derived.Test.YtghdadniddoboaaM03
namespace Go.Proofs.Ytghdadniddoboaa
open Go Go.Sy Go.Value
set_option linter.unusedVariables false
set_option maxRecDepth 100000
def L_law10_RiskHolds_0 (limits : Option Addr) (limitsn : Nat) (limitsc : Nat) (g : Option Addr) (t26 : Option Addr) (t26n : Nat) (t26c : Nat) (t27 : Int) (t28 : Int) (h : Heap) (K : Value → Heap → Prop) : Prop :=
 LoopAt Try.prog Try.f11 11 (loopK Try.f11 0) (sp 102 [(1, slice limits limitsn limitsc), (7, pointer g), (26, slice t26 t26n t26c), (27, int IntKind.i64 t27), (28, int IntKind.i64 t28)]) h K
def L_law10_RiskHolds_1 (limits : Option Addr) (limitsn : Nat) (limitsc : Nat) (g : Option Addr) (x : Nat) (was : Option Addr) (wasn : Nat) (wasc : Nat) (t26 : Option Addr) (t26n : Nat) (t26c : Nat) (t27 : Int) (t28 : Int) (t33 : Int) (t34 : Int) (h : Heap) (K : Value → Heap → Prop) : Prop :=
 LoopAt Try.prog Try.f11 11 (loopK Try.f11 1) (sp 102 [(1, slice limits limitsn limitsc), (7, pointer g), (9, pointer (some { block := x, off := 0 })), (10, slice was wasn wasc), (26, slice t26 t26n t26c), (27, int IntKind.i64 t27), (28, int IntKind.i64 t28),
 (33, int IntKind.i64 t33), (34, int IntKind.i64 t34)]) h K
def L_law10_RiskHolds_2 (limits : Option Addr) (limitsn : Nat) (limitsc : Nat) (g : Option Addr) (x : Nat) (was : Option Addr) (wasn : Nat) (wasc : Nat) (t26 : Option Addr) (t26n : Nat) (t26c : Nat) (t27 : Int) (t28 : Int) (t55 : Int) (t56 : Int) (h : Heap) (K : Value → Heap → Prop) : Prop :=
 LoopAt Try.prog Try.f11 11 (loopK Try.f11 2) (sp 102 [(1, slice limits limitsn limitsc), (7, pointer g), (9, pointer (some { block := x, off := 0 })), (10, slice was wasn wasc), (26, slice t26 t26n t26c), (27, int IntKind.i64 t27), (28, int IntKind.i64 t28),
 (55, int IntKind.i64 t55), (56, int IntKind.i64 t56)]) h K
def L_law10_RiskHolds_0T (limits : Option Addr) (limitsn : Nat) (limitsc : Nat) (g : Option Addr) (t26 : Option Addr) (t26n : Nat) (t26c : Nat) (t27 : Int) (t28 : Int) (h : Heap) (K : Value → Heap → Prop) : Prop :=
 Br (decide (t28 < t27))
 (0 ≤ t28 ∧
 t28 < (↑t26n : Int) ∧
 withAddr t26 fun (b o : Nat) =>
 ∃ (n : Int),
 Heap.cell h b (o + Int.toNat t28 * 7) = some (int IntKind.i64 n) ∧
 ∃ (n_1 : Int),
 Heap.cell h b (o + Int.toNat t28 * 7 + 1) = some (int IntKind.i64 n_1) ∧
 ∃ (n_2 : Int),
 Heap.cell h b (o + Int.toNat t28 * 7 + 2) = some (int IntKind.i64 n_2) ∧
 ∃ (n_3 : Int),
 Heap.cell h b (o + Int.toNat t28 * 7 + 3) = some (int IntKind.i64 n_3) ∧
 ∃ (n_4 : Int),
 Heap.cell h b (o + Int.toNat t28 * 7 + 4) = some (int IntKind.i64 n_4) ∧
 ∃ (n_5 : Int),
 Heap.cell h b (o + Int.toNat t28 * 7 + 5) = some (int IntKind.i64 n_5) ∧
 ∃ (a : Option Addr),
 ∃ (n_6 : Nat),
 ∃ (m : Nat),
 Heap.cell h b (o + Int.toNat t28 * 7 + 6) = some (slice a n_6 m) ∧
 newB h [int IntKind.i64 0, int IntKind.i64 0, int IntKind.i64 0, int IntKind.i64 0, int IntKind.i64 0, int IntKind.i64 0, slice none 0 0] 83 fun (r : Nat) (h : Heap) =>
 Heap.canSt h r 0 7 ∧
 L_law10_RiskHolds_1 limits limitsn limitsc g r none 0 0 t26 t26n t26c t27 t28 (↑limitsn : Int) 0
 (Heap.setN h r 0 [int IntKind.i64 n, int IntKind.i64 n_1, int IntKind.i64 n_2, int IntKind.i64 n_3, int IntKind.i64 n_4, int IntKind.i64 n_5, slice a n_6 m]) K)
 (Ret h K (Value.bool true))
theorem L_law10_RiskHolds_0r (limits : Option Addr) (limitsn : Nat) (limitsc : Nat) (g : Option Addr) (t26 : Option Addr) (t26n : Nat) (t26c : Nat) (t27 : Int) (t28 : Int) (h : Heap) (K : Value → Heap → Prop) (k : L_law10_RiskHolds_0T limits limitsn limitsc g t26 t26n t26c t27 t28 h K) : L_law10_RiskHolds_0 limits limitsn limitsc g t26 t26n t26c t27 t28 h K :=
 LoopAt.of_ev (cs := []) Try.func11 mixed (fun junk => by kernel_rfl) k
def L_law10_RiskHolds_1T (limits : Option Addr) (limitsn : Nat) (limitsc : Nat) (g : Option Addr) (x : Nat) (was : Option Addr) (wasn : Nat) (wasc : Nat) (t26 : Option Addr) (t26n : Nat) (t26c : Nat) (t27 : Int) (t28 : Int) (t33 : Int) (t34 : Int) (h : Heap) (K : Value → Heap → Prop) : Prop :=
 Br (decide (t34 < t33))
 (CallA Try.prog fn_prisk_Guard_Flagged [pointer g, int IntKind.i64 t34] h fun (v : Value) (h : Heap) =>
 ∃ (b : Bool),
 v = Value.bool b ∧
 newB h [Value.bool b] 4 fun (r : Nat) (h : Heap) =>
 AppA [Value.bool false] 4 h was wasn wasc 1 (some { block := r, off := 0 }) fun (ap : Option Addr) (cp : Nat) (h : Heap) =>
 L_law10_RiskHolds_1 limits limitsn limitsc g x ap (wasn + 1) cp t26 t26n t26c t27 t28 t33 (IntKind.wrap IntKind.i64 (t34 + 1)) h K)
 (∃ (n : Int),
 Heap.cell h x 0 = some (int IntKind.i64 n) ∧
 ∃ (n_1 : Int),
 Heap.cell h x 1 = some (int IntKind.i64 n_1) ∧
 ∃ (n_2 : Int),
 Heap.cell h x 2 = some (int IntKind.i64 n_2) ∧
 ∃ (n_3 : Int),
 Heap.cell h x 3 = some (int IntKind.i64 n_3) ∧
 ∃ (n_4 : Int),
 Heap.cell h x 4 = some (int IntKind.i64 n_4) ∧
 ∃ (n_5 : Int),
 Heap.cell h x 5 = some (int IntKind.i64 n_5) ∧
 ∃ (a : Option Addr),
 ∃ (n_6 : Nat),
 ∃ (m : Nat),
 Heap.cell h x 6 = some (slice a n_6 m) ∧
 CallA Try.prog fn_law10_do [pointer g, agg #[int IntKind.i64 n, int IntKind.i64 n_1, int IntKind.i64 n_2, int IntKind.i64 n_3, int IntKind.i64 n_4, int IntKind.i64 n_5, slice a n_6 m]] h
 fun (v : Value) (h : Heap) =>
 ∃ (n : Int),
 v = int IntKind.i64 n ∧
 ∃ (n_7 : Int),
 Heap.cell h x 0 = some (int IntKind.i64 n_7) ∧
 Br (n_7 == 0) (Br (n == 10) (Ret h K (Value.bool false)) (L_law10_RiskHolds_2 limits limitsn limitsc g x was wasn wasc t26 t26n t26c t27 t28 (↑limitsn : Int) 0 h K))
 (L_law10_RiskHolds_2 limits limitsn limitsc g x was wasn wasc t26 t26n t26c t27 t28 (↑limitsn : Int) 0 h K))
theorem L_law10_RiskHolds_1r (limits : Option Addr) (limitsn : Nat) (limitsc : Nat) (g : Option Addr) (x : Nat) (was : Option Addr) (wasn : Nat) (wasc : Nat) (t26 : Option Addr) (t26n : Nat) (t26c : Nat) (t27 : Int) (t28 : Int) (t33 : Int) (t34 : Int) (h : Heap) (K : Value → Heap → Prop) (k : L_law10_RiskHolds_1T limits limitsn limitsc g x was wasn wasc t26 t26n t26c t27 t28 t33 t34 h K) : L_law10_RiskHolds_1 limits limitsn limitsc g x was wasn wasc t26 t26n t26c t27 t28 t33 t34 h K :=
 LoopAt.of_ev (cs := []) Try.func11 mixed (fun junk => by kernel_rfl) k
def L_law10_RiskHolds_2T (limits : Option Addr) (limitsn : Nat) (limitsc : Nat) (g : Option Addr) (x : Nat) (was : Option Addr) (wasn : Nat) (wasc : Nat) (t26 : Option Addr) (t26n : Nat) (t26c : Nat) (t27 : Int) (t28 : Int) (t55 : Int) (t56 : Int) (h : Heap) (K : Value → Heap → Prop) : Prop :=
 Br (decide (t56 < t55))
 (CallA Try.prog fn_prisk_Guard_Flagged [pointer g, int IntKind.i64 t56] h fun (v : Value) (h : Heap) =>
 ∃ (b : Bool),
 v = Value.bool b ∧
 Br (!b)
 (CallA Try.prog fn_prisk_Guard_Fails [pointer g, int IntKind.i64 t56, slice none 0 0] h fun (v : Value) (h : Heap) =>
 ∃ (n : Int),
 v = int IntKind.i64 n ∧
 Br (n != 0) (Ret h K (Value.bool false))
 (Br b
 (0 ≤ t56 ∧
 t56 < (↑wasn : Int) ∧
 withAddr was fun (b o : Nat) =>
 ∃ (b_1 : Bool),
 Heap.cell h b (o + Int.toNat t56) = some (Value.bool b_1) ∧
 Br (!b_1)
 (∃ (n : Int),
 Heap.cell h x 0 = some (int IntKind.i64 n) ∧
 Br (n != 2)
 (∃ (n : Int),
 Heap.cell h x 0 = some (int IntKind.i64 n) ∧
 Br (n != 3)
 (∃ (n : Int),
 Heap.cell h x 0 = some (int IntKind.i64 n) ∧
 Br (n != 5)
 (∃ (n : Int),
 Heap.cell h x 0 = some (int IntKind.i64 n) ∧
 Br (n != 6) (Ret h K (Value.bool false)) (L_law10_RiskHolds_2 limits limitsn limitsc g x was wasn wasc t26 t26n t26c t27 t28 t55 (IntKind.wrap IntKind.i64 (t56 + 1)) h K))
 (L_law10_RiskHolds_2 limits limitsn limitsc g x was wasn wasc t26 t26n t26c t27 t28 t55 (IntKind.wrap IntKind.i64 (t56 + 1)) h K))
 (L_law10_RiskHolds_2 limits limitsn limitsc g x was wasn wasc t26 t26n t26c t27 t28 t55 (IntKind.wrap IntKind.i64 (t56 + 1)) h K))
 (L_law10_RiskHolds_2 limits limitsn limitsc g x was wasn wasc t26 t26n t26c t27 t28 t55 (IntKind.wrap IntKind.i64 (t56 + 1)) h K))
 (L_law10_RiskHolds_2 limits limitsn limitsc g x was wasn wasc t26 t26n t26c t27 t28 t55 (IntKind.wrap IntKind.i64 (t56 + 1)) h K))
 (L_law10_RiskHolds_2 limits limitsn limitsc g x was wasn wasc t26 t26n t26c t27 t28 t55 (IntKind.wrap IntKind.i64 (t56 + 1)) h K)))
 (Br b
 (0 ≤ t56 ∧
 t56 < (↑wasn : Int) ∧
 withAddr was fun (b o : Nat) =>
 ∃ (b_1 : Bool),
 Heap.cell h b (o + Int.toNat t56) = some (Value.bool b_1) ∧
 Br (!b_1)
 (∃ (n : Int),
 Heap.cell h x 0 = some (int IntKind.i64 n) ∧
 Br (n != 2)
 (∃ (n : Int),
 Heap.cell h x 0 = some (int IntKind.i64 n) ∧
 Br (n != 3)
 (∃ (n : Int),
 Heap.cell h x 0 = some (int IntKind.i64 n) ∧
 Br (n != 5)
 (∃ (n : Int),
 Heap.cell h x 0 = some (int IntKind.i64 n) ∧
 Br (n != 6) (Ret h K (Value.bool false)) (L_law10_RiskHolds_2 limits limitsn limitsc g x was wasn wasc t26 t26n t26c t27 t28 t55 (IntKind.wrap IntKind.i64 (t56 + 1)) h K))
 (L_law10_RiskHolds_2 limits limitsn limitsc g x was wasn wasc t26 t26n t26c t27 t28 t55 (IntKind.wrap IntKind.i64 (t56 + 1)) h K))
 (L_law10_RiskHolds_2 limits limitsn limitsc g x was wasn wasc t26 t26n t26c t27 t28 t55 (IntKind.wrap IntKind.i64 (t56 + 1)) h K))
 (L_law10_RiskHolds_2 limits limitsn limitsc g x was wasn wasc t26 t26n t26c t27 t28 t55 (IntKind.wrap IntKind.i64 (t56 + 1)) h K))
 (L_law10_RiskHolds_2 limits limitsn limitsc g x was wasn wasc t26 t26n t26c t27 t28 t55 (IntKind.wrap IntKind.i64 (t56 + 1)) h K))
 (L_law10_RiskHolds_2 limits limitsn limitsc g x was wasn wasc t26 t26n t26c t27 t28 t55 (IntKind.wrap IntKind.i64 (t56 + 1)) h K)))
 (L_law10_RiskHolds_0 limits limitsn limitsc g t26 t26n t26c t27 (IntKind.wrap IntKind.i64 (t28 + 1)) h K)
theorem L_law10_RiskHolds_2r (limits : Option Addr) (limitsn : Nat) (limitsc : Nat) (g : Option Addr) (x : Nat) (was : Option Addr) (wasn : Nat) (wasc : Nat) (t26 : Option Addr) (t26n : Nat) (t26c : Nat) (t27 : Int) (t28 : Int) (t55 : Int) (t56 : Int) (h : Heap) (K : Value → Heap → Prop) (k : L_law10_RiskHolds_2T limits limitsn limitsc g x was wasn wasc t26 t26n t26c t27 t28 t55 t56 h K) : L_law10_RiskHolds_2 limits limitsn limitsc g x was wasn wasc t26 t26n t26c t27 t28 t55 t56 h K :=
 LoopAt.of_ev (cs := []) Try.func11 mixed (fun junk => by kernel_rfl) k
def F_law10_RiskHoldsT (t : Option Addr) (tn : Nat) (tc : Nat) (limits : Option Addr) (limitsn : Nat) (limitsc : Nat) (ops : Option Addr) (opsn : Nat) (opsc : Nat) (h : Heap) (K : Value → Heap → Prop) : Prop :=
 CallA Try.prog fn_law10_awake [] h fun (v : Value) (h : Heap) =>
 ∃ (b : Bool),
 v = Value.bool b ∧
 Br (!b) (Ret h K (Value.bool false))
 (CallA Try.prog fn_law10_large [slice t tn tc, slice limits limitsn limitsc, slice ops opsn opsc] h fun (v : Value) (h : Heap) =>
 ∃ (b : Bool),
 v = Value.bool b ∧
 Br b (Ret h K (Value.bool true))
 (CallA Try.prog fn_law10_made [slice t tn tc, slice limits limitsn limitsc] h fun (v : Value) (h : Heap) =>
 ∃ (a : Option Addr), v = pointer a ∧ Br (Option.isNone a) (Ret h K (Value.bool true)) (L_law10_RiskHolds_0 limits limitsn limitsc a ops opsn opsc (↑opsn : Int) 0 h K)))
theorem F_law10_RiskHolds (t : Option Addr) (tn : Nat) (tc : Nat) (limits : Option Addr) (limitsn : Nat) (limitsc : Nat) (ops : Option Addr) (opsn : Nat) (opsc : Nat) (h : Heap) (K : Value → Heap → Prop) (k : F_law10_RiskHoldsT t tn tc limits limitsn limitsc ops opsn opsc h K) : CallA Try.prog fn_law10_RiskHolds [slice t tn tc, slice limits limitsn limitsc, slice ops opsn opsc] h K :=
 CallA.of_ev (cs := []) Try.func11 (by kernel_rfl) (fun _ _ => Try.call11 _ _) mixed (by kernel_rfl) (by kernel_rfl) k
end Go.Proofs.Ytghdadniddoboaa

namespace Go.Proofs.Ytghdadniddoboaa
open Go Go.Sy Go.Value
set_option linter.unusedVariables false
set_option maxRecDepth 100000
def L_law10_RiskLimits_0 (t : Option Addr) (tn : Nat) (tc : Nat) (limits : Option Addr) (limitsn : Nat) (limitsc : Nat) (ops : Option Addr) (opsn : Nat) (opsc : Nat) (member : Int) (cur : Int) (amount : Int) (wide : Option Addr) (widen : Nat) (widec : Nat) (t32 : Option Addr) (t32n : Nat) (t32c : Nat) (t33 : Int) (t34 : Int) (h : Heap) (K : Value → Heap → Prop) : Prop :=
 LoopAt Try.prog Try.f10 10 (loopK Try.f10 0) (sp 136 [(0, slice t tn tc), (1, slice limits limitsn limitsc), (2, slice ops opsn opsc), (3, int IntKind.i64 member), (4, int IntKind.i64 cur), (5, int IntKind.i64 amount), (13, slice wide widen widec),
 (32, slice t32 t32n t32c), (33, int IntKind.i64 t33), (34, int IntKind.i64 t34)]) h K
def L_law10_RiskLimits_1 (t : Option Addr) (tn : Nat) (tc : Nat) (limits : Option Addr) (limitsn : Nat) (limitsc : Nat) (ops : Option Addr) (opsn : Nat) (opsc : Nat) (member : Int) (cur : Int) (amount : Int) (wide : Option Addr) (widen : Nat) (widec : Nat) (y : Nat) (t32 : Option Addr) (t32n : Nat) (t32c : Nat) (t33 : Int) (t34 : Int) (t43 : Option Addr) (t43n : Nat) (t43c : Nat) (t44 : Int) (t45 : Int) (h : Heap) (K : Value → Heap → Prop) : Prop :=
 LoopAt Try.prog Try.f10 10 (loopK Try.f10 1) (sp 136 [(0, slice t tn tc), (1, slice limits limitsn limitsc), (2, slice ops opsn opsc), (3, int IntKind.i64 member), (4, int IntKind.i64 cur), (5, int IntKind.i64 amount), (13, slice wide widen widec),
 (16, pointer (some { block := y, off := 0 })), (32, slice t32 t32n t32c), (33, int IntKind.i64 t33), (34, int IntKind.i64 t34), (43, slice t43 t43n t43c), (44, int IntKind.i64 t44), (45, int IntKind.i64 t45)]) h K
def L_law10_RiskLimits_2 (member : Int) (cur : Int) (amount : Int) (g : Option Addr) (h' : Option Addr) (t76 : Option Addr) (t76n : Nat) (t76c : Nat) (t77 : Int) (t78 : Int) (h : Heap) (K : Value → Heap → Prop) : Prop :=
 LoopAt Try.prog Try.f10 10 (loopK Try.f10 2) (sp 136 [(3, int IntKind.i64 member), (4, int IntKind.i64 cur), (5, int IntKind.i64 amount), (19, pointer g), (20, pointer h'), (76, slice t76 t76n t76c), (77, int IntKind.i64 t77), (78, int IntKind.i64 t78)]) h K
def L_law10_RiskLimits_0T (t : Option Addr) (tn : Nat) (tc : Nat) (limits : Option Addr) (limitsn : Nat) (limitsc : Nat) (ops : Option Addr) (opsn : Nat) (opsc : Nat) (member : Int) (cur : Int) (amount : Int) (wide : Option Addr) (widen : Nat) (widec : Nat) (t32 : Option Addr) (t32n : Nat) (t32c : Nat) (t33 : Int) (t34 : Int) (h : Heap) (K : Value → Heap → Prop) : Prop :=
 Br (decide (t34 < t33))
 (0 ≤ t34 ∧
 t34 < (↑t32n : Int) ∧
 withAddr t32 fun (b o : Nat) =>
 ∃ (a : Option Addr),
 ∃ (n : Nat),
 ∃ (m : Nat),
 Heap.cell h b (o + Int.toNat t34 * 2) = some (slice a n m) ∧
 ∃ (n_1 : Int),
 Heap.cell h b (o + Int.toNat t34 * 2 + 1) = some (int IntKind.i64 n_1) ∧
 newB h [slice none 0 0, int IntKind.i64 0] 79 fun (r : Nat) (h : Heap) =>
 Heap.canSt h r 0 2 ∧
 ∃ (n_2 : Int),
 Heap.cell (Heap.setN h r 0 [slice a n m, int IntKind.i64 n_1]) r 1 = some (int IntKind.i64 n_2) ∧
 newB (Heap.setN h r 0 [slice a n m, int IntKind.i64 n_1]) [slice none 0 0, int IntKind.i64 0] 79 fun (r_1 : Nat) (h : Heap) =>
 Heap.canSt h r_1 0 2 ∧
 ∃ (a : Option Addr),
 ∃ (n : Nat),
 ∃ (m : Nat),
 Heap.cell (Heap.setN h r_1 0 [slice none 0 0, int IntKind.i64 (if 4611686018427387904 > n_2 then 4611686018427387904 else n_2)]) r 0 = some (slice a n m) ∧
 L_law10_RiskLimits_1 t tn tc limits limitsn limitsc ops opsn opsc member cur amount wide widen widec r_1 t32 t32n t32c t33 t34 a n m (↑n : Int) 0
 (Heap.setN h r_1 0 [slice none 0 0, int IntKind.i64 (if 4611686018427387904 > n_2 then 4611686018427387904 else n_2)]) K)
 (CallA Try.prog fn_law10_made [slice t tn tc, slice limits limitsn limitsc] h fun (v : Value) (h : Heap) =>
 ∃ (a : Option Addr),
 v = pointer a ∧
 CallA Try.prog fn_law10_made [slice t tn tc, slice wide widen widec] h fun (v : Value) (h : Heap) =>
 ∃ (a_1 : Option Addr),
 v = pointer a_1 ∧
 Br (Option.isNone a) (Ret h K (Value.bool (Option.isNone a))) (Br (Option.isNone a_1) (Ret h K (Value.bool (Option.isNone a))) (L_law10_RiskLimits_2 member cur amount a a_1 ops opsn opsc (↑opsn : Int) 0 h K)))
theorem L_law10_RiskLimits_0r (t : Option Addr) (tn : Nat) (tc : Nat) (limits : Option Addr) (limitsn : Nat) (limitsc : Nat) (ops : Option Addr) (opsn : Nat) (opsc : Nat) (member : Int) (cur : Int) (amount : Int) (wide : Option Addr) (widen : Nat) (widec : Nat) (t32 : Option Addr) (t32n : Nat) (t32c : Nat) (t33 : Int) (t34 : Int) (h : Heap) (K : Value → Heap → Prop) (k : L_law10_RiskLimits_0T t tn tc limits limitsn limitsc ops opsn opsc member cur amount wide widen widec t32 t32n t32c t33 t34 h K) : L_law10_RiskLimits_0 t tn tc limits limitsn limitsc ops opsn opsc member cur amount wide widen widec t32 t32n t32c t33 t34 h K :=
 LoopAt.of_ev (cs := []) Try.func10 mixed (fun junk => by kernel_rfl) k
def L_law10_RiskLimits_1T (t : Option Addr) (tn : Nat) (tc : Nat) (limits : Option Addr) (limitsn : Nat) (limitsc : Nat) (ops : Option Addr) (opsn : Nat) (opsc : Nat) (member : Int) (cur : Int) (amount : Int) (wide : Option Addr) (widen : Nat) (widec : Nat) (y : Nat) (t32 : Option Addr) (t32n : Nat) (t32c : Nat) (t33 : Int) (t34 : Int) (t43 : Option Addr) (t43n : Nat) (t43c : Nat) (t44 : Int) (t45 : Int) (h : Heap) (K : Value → Heap → Prop) : Prop :=
 Br (decide (t45 < t44))
 (0 ≤ t45 ∧
 t45 < (↑t43n : Int) ∧
 withAddr t43 fun (b o : Nat) =>
 ∃ (n : Int),
 Heap.cell h b (o + Int.toNat t45) = some (int IntKind.i64 n) ∧
 ∃ (a : Option Addr),
 ∃ (n_1 : Nat),
 ∃ (m : Nat),
 Heap.cell h y 0 = some (slice a n_1 m) ∧
 newB h [int IntKind.i64 (if 4611686018427387904 > n then 4611686018427387904 else n)] 2 fun (r : Nat) (h : Heap) =>
 AppA [int IntKind.i64 0] 2 h a n_1 m 1 (some { block := r, off := 0 }) fun (ap : Option Addr) (cp : Nat) (h : Heap) =>
 Heap.canSt h y 0 1 ∧
 L_law10_RiskLimits_1 t tn tc limits limitsn limitsc ops opsn opsc member cur amount wide widen widec y t32 t32n t32c t33 t34 t43 t43n t43c t44 (IntKind.wrap IntKind.i64 (t45 + 1))
 (Heap.setN h y 0 [slice ap (n_1 + 1) cp]) K)
 (∃ (a : Option Addr),
 ∃ (n : Nat),
 ∃ (m : Nat),
 Heap.cell h y 0 = some (slice a n m) ∧
 ∃ (n_1 : Int),
 Heap.cell h y 1 = some (int IntKind.i64 n_1) ∧
 newB h [slice a n m, int IntKind.i64 n_1] 79 fun (r : Nat) (h : Heap) =>
 AppA [slice none 0 0, int IntKind.i64 0] 79 h wide widen widec 1 (some { block := r, off := 0 }) fun (ap : Option Addr) (cp : Nat) (h : Heap) =>
 L_law10_RiskLimits_0 t tn tc limits limitsn limitsc ops opsn opsc member cur amount ap (widen + 1) cp t32 t32n t32c t33 (IntKind.wrap IntKind.i64 (t34 + 1)) h K)
theorem L_law10_RiskLimits_1r (t : Option Addr) (tn : Nat) (tc : Nat) (limits : Option Addr) (limitsn : Nat) (limitsc : Nat) (ops : Option Addr) (opsn : Nat) (opsc : Nat) (member : Int) (cur : Int) (amount : Int) (wide : Option Addr) (widen : Nat) (widec : Nat) (y : Nat) (t32 : Option Addr) (t32n : Nat) (t32c : Nat) (t33 : Int) (t34 : Int) (t43 : Option Addr) (t43n : Nat) (t43c : Nat) (t44 : Int) (t45 : Int) (h : Heap) (K : Value → Heap → Prop) (k : L_law10_RiskLimits_1T t tn tc limits limitsn limitsc ops opsn opsc member cur amount wide widen widec y t32 t32n t32c t33 t34 t43 t43n t43c t44 t45 h K) : L_law10_RiskLimits_1 t tn tc limits limitsn limitsc ops opsn opsc member cur amount wide widen widec y t32 t32n t32c t33 t34 t43 t43n t43c t44 t45 h K :=
 LoopAt.of_ev (cs := []) Try.func10 mixed (fun junk => by kernel_rfl) k
def L_law10_RiskLimits_2T (member : Int) (cur : Int) (amount : Int) (g : Option Addr) (h' : Option Addr) (t76 : Option Addr) (t76n : Nat) (t76c : Nat) (t77 : Int) (t78 : Int) (h : Heap) (K : Value → Heap → Prop) : Prop :=
 Br (decide (t78 < t77))
 (0 ≤ t78 ∧
 t78 < (↑t76n : Int) ∧
 withAddr t76 fun (b o : Nat) =>
 ∃ (n : Int),
 Heap.cell h b (o + Int.toNat t78 * 7) = some (int IntKind.i64 n) ∧
 ∃ (n_1 : Int),
 Heap.cell h b (o + Int.toNat t78 * 7 + 1) = some (int IntKind.i64 n_1) ∧
 ∃ (n_2 : Int),
 Heap.cell h b (o + Int.toNat t78 * 7 + 2) = some (int IntKind.i64 n_2) ∧
 ∃ (n_3 : Int),
 Heap.cell h b (o + Int.toNat t78 * 7 + 3) = some (int IntKind.i64 n_3) ∧
 ∃ (n_4 : Int),
 Heap.cell h b (o + Int.toNat t78 * 7 + 4) = some (int IntKind.i64 n_4) ∧
 ∃ (n_5 : Int),
 Heap.cell h b (o + Int.toNat t78 * 7 + 5) = some (int IntKind.i64 n_5) ∧
 ∃ (a : Option Addr),
 ∃ (n_6 : Nat),
 ∃ (m : Nat),
 Heap.cell h b (o + Int.toNat t78 * 7 + 6) = some (slice a n_6 m) ∧
 newB h [int IntKind.i64 0, int IntKind.i64 0, int IntKind.i64 0, int IntKind.i64 0, int IntKind.i64 0, int IntKind.i64 0, slice none 0 0] 83 fun (r : Nat) (h : Heap) =>
 Heap.canSt h r 0 7 ∧
 ∃ (n_7 : Int),
 Heap.cell (Heap.setN h r 0 [int IntKind.i64 n, int IntKind.i64 n_1, int IntKind.i64 n_2, int IntKind.i64 n_3, int IntKind.i64 n_4, int IntKind.i64 n_5, slice a n_6 m]) r 0 =
 some (int IntKind.i64 n_7) ∧
 Br (n_7 == 0)
 (∃ (n_8 : Int),
 Heap.cell (Heap.setN h r 0 [int IntKind.i64 n, int IntKind.i64 n_1, int IntKind.i64 n_2, int IntKind.i64 n_3, int IntKind.i64 n_4, int IntKind.i64 n_5, slice a n_6 m])
 r 1 =
 some (int IntKind.i64 n_8) ∧
 ∃ (n_9 : Int),
 Heap.cell
 (Heap.setN h r 0 [int IntKind.i64 n, int IntKind.i64 n_1, int IntKind.i64 n_2, int IntKind.i64 n_3, int IntKind.i64 n_4, int IntKind.i64 n_5, slice a n_6 m])
 r 2 =
 some (int IntKind.i64 n_9) ∧
 ∃ (n_10 : Int),
 Heap.cell
 (Heap.setN h r 0
 [int IntKind.i64 n, int IntKind.i64 n_1, int IntKind.i64 n_2, int IntKind.i64 n_3, int IntKind.i64 n_4, int IntKind.i64 n_5, slice a n_6 m])
 r 4 =
 some (int IntKind.i64 n_10) ∧
 ∃ (n_11 : Int),
 Heap.cell
 (Heap.setN h r 0
 [int IntKind.i64 n, int IntKind.i64 n_1, int IntKind.i64 n_2, int IntKind.i64 n_3, int IntKind.i64 n_4, int IntKind.i64 n_5, slice a n_6 m])
 r 1 =
 some (int IntKind.i64 n_11) ∧
 ∃ (n_12 : Int),
 Heap.cell
 (Heap.setN h r 0
 [int IntKind.i64 n, int IntKind.i64 n_1, int IntKind.i64 n_2, int IntKind.i64 n_3, int IntKind.i64 n_4, int IntKind.i64 n_5, slice a n_6 m])
 r 2 =
 some (int IntKind.i64 n_12) ∧
 ∃ (n_13 : Int),
 Heap.cell
 (Heap.setN h r 0
 [int IntKind.i64 n, int IntKind.i64 n_1, int IntKind.i64 n_2, int IntKind.i64 n_3, int IntKind.i64 n_4, int IntKind.i64 n_5, slice a n_6 m])
 r 4 =
 some (int IntKind.i64 n_13) ∧
 CallA Try.prog fn_prisk_Guard_In [pointer g, int IntKind.i64 n_8, int IntKind.i64 n_9, int IntKind.i64 n_10]
 (Heap.setN h r 0
 [int IntKind.i64 n, int IntKind.i64 n_1, int IntKind.i64 n_2, int IntKind.i64 n_3, int IntKind.i64 n_4, int IntKind.i64 n_5, slice a n_6 m])
 fun (v : Value) (h_1 : Heap) =>
 ∃ (n_14 : Int),
 v = int IntKind.i64 n_14 ∧
 (Heap.le
 (Heap.setN h r 0
 [int IntKind.i64 n, int IntKind.i64 n_1, int IntKind.i64 n_2, int IntKind.i64 n_3, int IntKind.i64 n_4, int IntKind.i64 n_5,
 slice a n_6 m])
 h_1 ∨
 Keeps [r, r, r]
 (Heap.setN h r 0
 [int IntKind.i64 n, int IntKind.i64 n_1, int IntKind.i64 n_2, int IntKind.i64 n_3, int IntKind.i64 n_4, int IntKind.i64 n_5,
 slice a n_6 m])
 h_1) ∧
 CallA Try.prog fn_prisk_Guard_In [pointer h', int IntKind.i64 n_11, int IntKind.i64 n_12, int IntKind.i64 n_13] h_1 fun (v : Value) (h : Heap) =>
 ∃ (n : Int),
 v = int IntKind.i64 n ∧
 Br (n_14 != n) (Ret h K (Value.bool false))
 (L_law10_RiskLimits_2 member cur amount g h' t76 t76n t76c t77 (IntKind.wrap IntKind.i64 (t78 + 1)) h K))
 (L_law10_RiskLimits_2 member cur amount g h' t76 t76n t76c t77 (IntKind.wrap IntKind.i64 (t78 + 1))
 (Heap.setN h r 0 [int IntKind.i64 n, int IntKind.i64 n_1, int IntKind.i64 n_2, int IntKind.i64 n_3, int IntKind.i64 n_4, int IntKind.i64 n_5, slice a n_6 m]) K))
 (newB h [int IntKind.i64 member, int IntKind.i64 cur, int IntKind.i64 (-1000)] 86 fun (r : Nat) (h : Heap) =>
 CallA Try.prog fn_prisk_Guard_Fails [pointer g, int IntKind.i64 member, slice (some { block := r, off := 0 }) 1 1] h fun (v : Value) (h : Heap) =>
 ∃ (n : Int),
 v = int IntKind.i64 n ∧
 newB h [int IntKind.i64 member, int IntKind.i64 cur, int IntKind.i64 (-1000)] 86 fun (r : Nat) (h : Heap) =>
 CallA Try.prog fn_prisk_Guard_Fails [pointer h', int IntKind.i64 member, slice (some { block := r, off := 0 }) 1 1] h fun (v : Value) (h : Heap) =>
 ∃ (n_1 : Int),
 v = int IntKind.i64 n_1 ∧
 Br (IntKind.wrap IntKind.i64 (↑(BitVec.toNat (BitVec.ofInt 64 n_1 &&& ~~~BitVec.ofInt 64 n)) : Int) != 0) (Ret h K (Value.bool false))
 (CallA Try.prog fn_prisk_Guard_Fails [pointer g, int IntKind.i64 member, slice none 0 0] h fun (v : Value) (h : Heap) =>
 ∃ (n : Int),
 v = int IntKind.i64 n ∧
 CallA Try.prog fn_prisk_Guard_In [pointer g, int IntKind.i64 member, int IntKind.i64 cur, int IntKind.i64 amount] h fun (v : Value) (h : Heap) =>
 ∃ (n_2 : Int),
 v = int IntKind.i64 n_2 ∧
 Br (n_2 != 0) (Ret h K (Value.bool true))
 (CallA Try.prog fn_prisk_Guard_Fails [pointer g, int IntKind.i64 member, slice none 0 0] h fun (v : Value) (h : Heap) =>
 ∃ (n_3 : Int), v = int IntKind.i64 n_3 ∧ Ret h K (Value.bool (IntKind.wrap IntKind.i64 (↑(BitVec.toNat (BitVec.ofInt 64 n_3 &&& ~~~BitVec.ofInt 64 n)) : Int) == 0)))))
theorem L_law10_RiskLimits_2r (member : Int) (cur : Int) (amount : Int) (g : Option Addr) (h' : Option Addr) (t76 : Option Addr) (t76n : Nat) (t76c : Nat) (t77 : Int) (t78 : Int) (h : Heap) (K : Value → Heap → Prop) (k : L_law10_RiskLimits_2T member cur amount g h' t76 t76n t76c t77 t78 h K) : L_law10_RiskLimits_2 member cur amount g h' t76 t76n t76c t77 t78 h K :=
 LoopAt.of_ev (cs := []) Try.func10 mixed (fun junk => by kernel_rfl) k
def F_law10_RiskLimitsT (t : Option Addr) (tn : Nat) (tc : Nat) (limits : Option Addr) (limitsn : Nat) (limitsc : Nat) (ops : Option Addr) (opsn : Nat) (opsc : Nat) (member : Int) (cur : Int) (amount : Int) (h : Heap) (K : Value → Heap → Prop) : Prop :=
 CallA Try.prog fn_law10_awake [] h fun (v : Value) (h : Heap) =>
 ∃ (b : Bool),
 v = Value.bool b ∧
 Br (!b) (Ret h K (Value.bool false))
 (CallA Try.prog fn_law10_large [slice t tn tc, slice limits limitsn limitsc, slice ops opsn opsc] h fun (v : Value) (h : Heap) =>
 ∃ (b : Bool), v = Value.bool b ∧ Br b (Ret h K (Value.bool true)) (L_law10_RiskLimits_0 t tn tc limits limitsn limitsc ops opsn opsc member cur amount none 0 0 limits limitsn limitsc (↑limitsn : Int) 0 h K))
theorem F_law10_RiskLimits (t : Option Addr) (tn : Nat) (tc : Nat) (limits : Option Addr) (limitsn : Nat) (limitsc : Nat) (ops : Option Addr) (opsn : Nat) (opsc : Nat) (member : Int) (cur : Int) (amount : Int) (h : Heap) (K : Value → Heap → Prop) (k : F_law10_RiskLimitsT t tn tc limits limitsn limitsc ops opsn opsc member cur amount h K) : CallA Try.prog fn_law10_RiskLimits [slice t tn tc, slice limits limitsn limitsc, slice ops opsn opsc, int IntKind.i64 member, int IntKind.i64 cur, int IntKind.i64 amount] h K :=
 CallA.of_ev (cs := []) Try.func10 (by kernel_rfl) (fun _ _ => Try.call10 _ _) mixed (by kernel_rfl) (by kernel_rfl) k
end Go.Proofs.Ytghdadniddoboaa
