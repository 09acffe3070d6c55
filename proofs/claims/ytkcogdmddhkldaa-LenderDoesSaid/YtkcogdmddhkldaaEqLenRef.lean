import Derived.Test.YtkcogdmddhkldaaEqN
namespace Go.Proofs.Ytkcogdmddhkldaa
open Go Go.Sy Go.Value
set_option linter.unusedVariables false
set_option maxRecDepth 100000
def L_ref15_New_0 (lines : Option Addr) (linesn : Nat) (linesc : Nat) (currencies : Int) (x : Nat) (i : Int) (h : Heap) (K : Value → Heap → Prop) : Prop :=
 LoopAt Try.prog Try.f28 28 (loopK Try.f28 0) (sp 66 [(0, slice lines linesn linesc), (1, int IntKind.i64 currencies), (6, pointer (some { block := x, off := 0 })), (7, int IntKind.i64 i)]) h K
def L_ref15_New_1 (lines : Option Addr) (linesn : Nat) (linesc : Nat) (currencies : Int) (x : Nat) (i : Int) (c : Int) (h : Heap) (K : Value → Heap → Prop) : Prop :=
 LoopAt Try.prog Try.f28 28 (loopK Try.f28 1) (sp 66 [(0, slice lines linesn linesc), (1, int IntKind.i64 currencies), (6, pointer (some { block := x, off := 0 })), (7, int IntKind.i64 i), (8, int IntKind.i64 c)]) h K
def L_ref15_New_0T (lines : Option Addr) (linesn : Nat) (linesc : Nat) (currencies : Int) (x : Nat) (i : Int) (h : Heap) (K : Value → Heap → Prop) : Prop :=
 Br (decide (i < (↑linesn : Int)))
 (0 ≤ i ∧
 i < (↑linesn : Int) ∧
 withAddr lines fun (b o : Nat) =>
 ∃ (a : Option Addr),
 ∃ (n : Nat),
 ∃ (m : Nat), Heap.cell h b (o + Int.toNat i) = some (slice a n m) ∧ Br ((↑n : Int) != currencies) (Ret h K (tuple #[pointer none, int IntKind.i64 1])) (L_ref15_New_1 lines linesn linesc currencies x i 0 h K))
 (Ret h K (tuple #[pointer (some { block := x, off := 0 }), int IntKind.i64 0]))
theorem L_ref15_New_0r (lines : Option Addr) (linesn : Nat) (linesc : Nat) (currencies : Int) (x : Nat) (i : Int) (h : Heap) (K : Value → Heap → Prop) (k : L_ref15_New_0T lines linesn linesc currencies x i h K) : L_ref15_New_0 lines linesn linesc currencies x i h K :=
 LoopAt.of_ev (cs := []) Try.func28 mixed (fun junk => by kernel_rfl) k
def L_ref15_New_1T (lines : Option Addr) (linesn : Nat) (linesc : Nat) (currencies : Int) (x : Nat) (i : Int) (c : Int) (h : Heap) (K : Value → Heap → Prop) : Prop :=
 Br (decide (c < currencies))
 (0 ≤ i ∧
 i < (↑linesn : Int) ∧
 withAddr lines fun (b o : Nat) =>
 ∃ (a : Option Addr),
 ∃ (n : Nat),
 ∃ (m : Nat),
 Heap.cell h b (o + Int.toNat i) = some (slice a n m) ∧
 0 ≤ c ∧
 c < (↑n : Int) ∧
 withAddr a fun (b o : Nat) =>
 ∃ (n : Int),
 Heap.cell h b (o + Int.toNat c) = some (int IntKind.i64 n) ∧
 Br (decide (n < 0)) (Ret h K (tuple #[pointer none, int IntKind.i64 1])) (L_ref15_New_1 lines linesn linesc currencies x i (IntKind.wrap IntKind.i64 (c + 1)) h K))
 (∃ (a : Option Addr),
 ∃ (n : Nat),
 ∃ (m : Nat),
 Heap.cell h x 0 = some (slice a n m) ∧
 0 ≤ i ∧
 i < (↑linesn : Int) ∧
 withAddr lines fun (b o : Nat) =>
 ∃ (a_1 : Option Addr),
 ∃ (n_1 : Nat),
 ∃ (m_1 : Nat),
 Heap.cell h b (o + Int.toNat i) = some (slice a_1 n_1 m_1) ∧
 newB h [] 2 fun (r : Nat) (h : Heap) =>
 AppA [int IntKind.i64 0] 2 h (some { block := r, off := 0 }) 0 0 n_1 a_1 fun (ap : Option Addr) (cp : Nat) (h_1 : Heap) =>
 (Heap.le h h_1 ∨ Keeps [x] h h_1) ∧
 newB h_1 [slice ap (0 + n_1) cp] 36 fun (r : Nat) (h : Heap) =>
 AppA [slice none 0 0] 36 h a n m 1 (some { block := r, off := 0 }) fun (ap : Option Addr) (cp : Nat) (h : Heap) =>
 Heap.canSt h x 0 1 ∧ L_ref15_New_0 lines linesn linesc currencies x (IntKind.wrap IntKind.i64 (i + 1)) (Heap.setN h x 0 [slice ap (n + 1) cp]) K)
theorem L_ref15_New_1r (lines : Option Addr) (linesn : Nat) (linesc : Nat) (currencies : Int) (x : Nat) (i : Int) (c : Int) (h : Heap) (K : Value → Heap → Prop) (k : L_ref15_New_1T lines linesn linesc currencies x i c h K) : L_ref15_New_1 lines linesn linesc currencies x i c h K :=
 LoopAt.of_ev (cs := []) Try.func28 mixed (fun junk => by kernel_rfl) k
def F_ref15_NewT (lines : Option Addr) (linesn : Nat) (linesc : Nat) (currencies : Int) (h : Heap) (K : Value → Heap → Prop) : Prop :=
 Br (decide ((↑linesn : Int) > 8)) (Ret h K (tuple #[pointer none, int IntKind.i64 4]))
 (Br (decide (currencies < 1)) (Ret h K (tuple #[pointer none, int IntKind.i64 1]))
 (Br (decide (currencies > 8)) (Ret h K (tuple #[pointer none, int IntKind.i64 1]))
 (0 ≤ (↑linesn : Int) ∧
 (↑linesn : Int) ≤ (↑linesn : Int) ∧
 (↑linesn : Int) ≤ 281474976710656 ∧
 1 * (↑linesn : Int) ≤ 281474976710656 ∧
 newB h (repL (Int.toNat (↑linesn : Int)) [Value.bool false]) 4 fun (r : Nat) (h : Heap) =>
 newB h [slice none 0 0, slice (some { block := r, off := 0 }) (Int.toNat (↑linesn : Int)) (Int.toNat (↑linesn : Int)), int IntKind.i64 currencies] 72 fun (r : Nat) (h : Heap) =>
 L_ref15_New_0 lines linesn linesc currencies r 0 h K)))
theorem F_ref15_New (lines : Option Addr) (linesn : Nat) (linesc : Nat) (currencies : Int) (h : Heap) (K : Value → Heap → Prop) (k : F_ref15_NewT lines linesn linesc currencies h K) : CallA Try.prog fn_ref15_New [slice lines linesn linesc, int IntKind.i64 currencies] h K :=
 CallA.of_ev (cs := []) Try.func28 (by kernel_rfl) (fun _ _ => Try.call28 _ _) mixed (by kernel_rfl) (by kernel_rfl) k
def F_pref15_Lenders_LeftT (x : Option Addr) (p : Int) (c : Int) (h : Heap) (K : Value → Heap → Prop) : Prop :=
 Br (decide (p < 0)) (Ret h K (int IntKind.i64 0))
 (withAddr x fun (b o : Nat) =>
 ∃ (a : Option Addr),
 ∃ (n : Nat),
 ∃ (m : Nat),
 Heap.cell h b o = some (slice a n m) ∧
 Br (decide (p ≥ (↑n : Int))) (Ret h K (int IntKind.i64 0))
 (Br (decide (c < 0)) (Ret h K (int IntKind.i64 0))
 (withAddr x fun (b o : Nat) =>
 ∃ (n : Int),
 Heap.cell h b (o + 2) = some (int IntKind.i64 n) ∧
 Br (decide (c ≥ n)) (Ret h K (int IntKind.i64 0))
 (withAddr x fun (b o : Nat) =>
 ∃ (a : Option Addr),
 ∃ (n : Nat),
 ∃ (m : Nat),
 Heap.cell h b (o + 1) = some (slice a n m) ∧
 0 ≤ p ∧
 p < (↑n : Int) ∧
 withAddr a fun (b o : Nat) =>
 ∃ (b_1 : Bool),
 Heap.cell h b (o + Int.toNat p) = some (Value.bool b_1) ∧
 Br b_1 (Ret h K (int IntKind.i64 0))
 (withAddr x fun (b o : Nat) =>
 ∃ (a : Option Addr),
 ∃ (n : Nat),
 ∃ (m : Nat),
 Heap.cell h b o = some (slice a n m) ∧
 0 ≤ p ∧
 p < (↑n : Int) ∧
 withAddr a fun (b o : Nat) =>
 ∃ (a : Option Addr),
 ∃ (n : Nat),
 ∃ (m : Nat),
 Heap.cell h b (o + Int.toNat p) = some (slice a n m) ∧
 0 ≤ c ∧
 c < (↑n : Int) ∧
 withAddr a fun (b o : Nat) => ∃ (n : Int), Heap.cell h b (o + Int.toNat c) = some (int IntKind.i64 n) ∧ Ret h K (int IntKind.i64 n))))))
theorem F_pref15_Lenders_Left (x : Option Addr) (p : Int) (c : Int) (h : Heap) (K : Value → Heap → Prop) (k : F_pref15_Lenders_LeftT x p c h K) : CallA Try.prog fn_pref15_Lenders_Left [pointer x, int IntKind.i64 p, int IntKind.i64 c] h K :=
 CallA.of_ev (cs := []) Try.func40 (by kernel_rfl) (fun _ _ => Try.call40 _ _) mixed (by kernel_rfl) (by kernel_rfl) k
def L_pref15_Lenders_Draw_0 (x : Option Addr) (c : Int) (need : Int) (out : Option Addr) (outn : Nat) (outc : Nat) (p : Int) (h : Heap) (K : Value → Heap → Prop) : Prop :=
 LoopAt Try.prog Try.f30 30 (loopK Try.f30 0) (sp 76 [(0, pointer x), (1, int IntKind.i64 c), (2, int IntKind.i64 need), (9, slice out outn outc), (10, int IntKind.i64 p)]) h K
def L_pref15_Lenders_Draw_0T (x : Option Addr) (c : Int) (need : Int) (out : Option Addr) (outn : Nat) (outc : Nat) (p : Int) (h : Heap) (K : Value → Heap → Prop) : Prop :=
 withAddr x fun (b o : Nat) =>
 ∃ (a : Option Addr),
 ∃ (n : Nat),
 ∃ (m : Nat),
 Heap.cell h b o = some (slice a n m) ∧
 Br (decide (p < (↑n : Int)))
 (CallA Try.prog fn_pref15_Lenders_Left [pointer x, int IntKind.i64 p, int IntKind.i64 c] h fun (v : Value) (h : Heap) =>
 ∃ (n : Int),
 v = int IntKind.i64 n ∧
 Br (decide ((if need < n then need else n) > 0))
 (withAddr x fun (b o : Nat) =>
 ∃ (a : Option Addr),
 ∃ (n_1 : Nat),
 ∃ (m : Nat),
 Heap.cell h b o = some (slice a n_1 m) ∧
 0 ≤ p ∧
 p < (↑n_1 : Int) ∧
 withAddr a fun (b o : Nat) =>
 ∃ (a : Option Addr),
 ∃ (n_2 : Nat),
 ∃ (m : Nat),
 Heap.cell h b (o + Int.toNat p) = some (slice a n_2 m) ∧
 withAddr x fun (b o : Nat) =>
 ∃ (a_1 : Option Addr),
 ∃ (n_3 : Nat),
 ∃ (m : Nat),
 Heap.cell h b o = some (slice a_1 n_3 m) ∧
 0 ≤ p ∧
 p < (↑n_3 : Int) ∧
 withAddr a_1 fun (b o : Nat) =>
 ∃ (a_2 : Option Addr),
 ∃ (n_4 : Nat),
 ∃ (m : Nat),
 Heap.cell h b (o + Int.toNat p) = some (slice a_2 n_4 m) ∧
 0 ≤ c ∧
 c < (↑n_4 : Int) ∧
 withAddr a_2 fun (b o : Nat) =>
 ∃ (n_5 : Int),
 Heap.cell h b (o + Int.toNat c) = some (int IntKind.i64 n_5) ∧
 0 ≤ c ∧
 c < (↑n_2 : Int) ∧
 withAddr a fun (b o : Nat) =>
 Heap.canSt h b (o + Int.toNat c) 1 ∧
 newB (Heap.setN h b (o + Int.toNat c) [int IntKind.i64 (IntKind.wrap IntKind.i64 (n_5 - if need < n then need else n))])
 [int IntKind.i64 p, int IntKind.i64 (if need < n then need else n)] 130 fun (r : Nat) (h : Heap) =>
 AppA [int IntKind.i64 0, int IntKind.i64 0] 130 h out outn outc 1 (some { block := r, off := 0 })
 fun (ap : Option Addr) (cp : Nat) (h : Heap) =>
 L_pref15_Lenders_Draw_0 x c (IntKind.wrap IntKind.i64 (need - if need < n then need else n)) ap (outn + 1) cp (IntKind.wrap IntKind.i64 (p + 1)) h
 K)
 (L_pref15_Lenders_Draw_0 x c need out outn outc (IntKind.wrap IntKind.i64 (p + 1)) h K))
 (Ret h K (tuple #[slice out outn outc, int IntKind.i64 need, int IntKind.i64 0]))
theorem L_pref15_Lenders_Draw_0r (x : Option Addr) (c : Int) (need : Int) (out : Option Addr) (outn : Nat) (outc : Nat) (p : Int) (h : Heap) (K : Value → Heap → Prop) (k : L_pref15_Lenders_Draw_0T x c need out outn outc p h K) : L_pref15_Lenders_Draw_0 x c need out outn outc p h K :=
 LoopAt.of_ev (cs := []) Try.func30 mixed (fun junk => by kernel_rfl) k
def F_pref15_Lenders_DrawT (x : Option Addr) (c : Int) (need : Int) (h : Heap) (K : Value → Heap → Prop) : Prop :=
 Br (decide (c < 0)) (Ret h K (tuple #[slice none 0 0, int IntKind.i64 0, int IntKind.i64 1]))
 (withAddr x fun (b o : Nat) =>
 ∃ (n : Int),
 Heap.cell h b (o + 2) = some (int IntKind.i64 n) ∧
 Br (decide (c ≥ n)) (Ret h K (tuple #[slice none 0 0, int IntKind.i64 0, int IntKind.i64 1]))
 (Br (decide (need < 0)) (Ret h K (tuple #[slice none 0 0, int IntKind.i64 0, int IntKind.i64 1])) (newB h [] 130 fun (r : Nat) (h : Heap) => L_pref15_Lenders_Draw_0 x c need (some { block := r, off := 0 }) 0 0 0 h K)))
theorem F_pref15_Lenders_Draw (x : Option Addr) (c : Int) (need : Int) (h : Heap) (K : Value → Heap → Prop) (k : F_pref15_Lenders_DrawT x c need h K) : CallA Try.prog fn_pref15_Lenders_Draw [pointer x, int IntKind.i64 c, int IntKind.i64 need] h K :=
 CallA.of_ev (cs := []) Try.func30 (by kernel_rfl) (fun _ _ => Try.call30 _ _) mixed (by kernel_rfl) (by kernel_rfl) k
def L_pref15_Lenders_Give_0 (x : Option Addr) (c : Int) (l : Option Addr) (ln : Nat) (lc : Nat) (i : Int) (h : Heap) (K : Value → Heap → Prop) : Prop :=
 LoopAt Try.prog Try.f34 34 (loopK Try.f34 0) (sp 145 [(0, pointer x), (1, int IntKind.i64 c), (2, slice l ln lc), (7, int IntKind.i64 i)]) h K
def L_pref15_Lenders_Give_1 (x : Option Addr) (c : Int) (l : Option Addr) (ln : Nat) (lc : Nat) (p : Int) (h : Heap) (K : Value → Heap → Prop) : Prop :=
 LoopAt Try.prog Try.f34 34 (loopK Try.f34 1) (sp 145 [(0, pointer x), (1, int IntKind.i64 c), (2, slice l ln lc), (8, int IntKind.i64 p)]) h K
def L_pref15_Lenders_Give_2 (x : Option Addr) (c : Int) (l : Option Addr) (ln : Nat) (lc : Nat) (p : Int) (sum : Nat) (i : Int) (h : Heap) (K : Value → Heap → Prop) : Prop :=
 LoopAt Try.prog Try.f34 34 (loopK Try.f34 2) (sp 145 [(0, pointer x), (1, int IntKind.i64 c), (2, slice l ln lc), (8, int IntKind.i64 p), (9, pointer (some { block := sum, off := 0 })), (10, int IntKind.i64 i)]) h K
def L_pref15_Lenders_Give_3 (x : Option Addr) (c : Int) (l : Option Addr) (ln : Nat) (lc : Nat) (i : Int) (h : Heap) (K : Value → Heap → Prop) : Prop :=
 LoopAt Try.prog Try.f34 34 (loopK Try.f34 3) (sp 145 [(0, pointer x), (1, int IntKind.i64 c), (2, slice l ln lc), (13, int IntKind.i64 i)]) h K
def L_pref15_Lenders_Give_0T (x : Option Addr) (c : Int) (l : Option Addr) (ln : Nat) (lc : Nat) (i : Int) (h : Heap) (K : Value → Heap → Prop) : Prop :=
 Br (decide (i < (↑ln : Int)))
 (0 ≤ i ∧
 i < (↑ln : Int) ∧
 withAddr l fun (b o : Nat) =>
 ∃ (n : Int),
 Heap.cell h b (o + Int.toNat i * 2) = some (int IntKind.i64 n) ∧
 Br (decide (n < 0)) (Ret h K (int IntKind.i64 1))
 (0 ≤ i ∧
 i < (↑ln : Int) ∧
 withAddr l fun (b o : Nat) =>
 ∃ (n : Int),
 Heap.cell h b (o + Int.toNat i * 2) = some (int IntKind.i64 n) ∧
 withAddr x fun (b o : Nat) =>
 ∃ (a : Option Addr),
 ∃ (n_1 : Nat),
 ∃ (m : Nat),
 Heap.cell h b o = some (slice a n_1 m) ∧
 Br (decide (n ≥ (↑n_1 : Int))) (Ret h K (int IntKind.i64 1))
 (0 ≤ i ∧
 i < (↑ln : Int) ∧
 withAddr l fun (b o : Nat) =>
 ∃ (n : Int),
 Heap.cell h b (o + Int.toNat i * 2 + 1) = some (int IntKind.i64 n) ∧
 Br (decide (n < 1)) (Ret h K (int IntKind.i64 1)) (L_pref15_Lenders_Give_0 x c l ln lc (IntKind.wrap IntKind.i64 (i + 1)) h K))))
 (L_pref15_Lenders_Give_1 x c l ln lc 0 h K)
theorem L_pref15_Lenders_Give_0r (x : Option Addr) (c : Int) (l : Option Addr) (ln : Nat) (lc : Nat) (i : Int) (h : Heap) (K : Value → Heap → Prop) (k : L_pref15_Lenders_Give_0T x c l ln lc i h K) : L_pref15_Lenders_Give_0 x c l ln lc i h K :=
 LoopAt.of_ev (cs := []) Try.func34 mixed (fun junk => by kernel_rfl) k
def L_pref15_Lenders_Give_1T (x : Option Addr) (c : Int) (l : Option Addr) (ln : Nat) (lc : Nat) (p : Int) (h : Heap) (K : Value → Heap → Prop) : Prop :=
 withAddr x fun (b o : Nat) =>
 ∃ (a : Option Addr),
 ∃ (n : Nat),
 ∃ (m : Nat),
 Heap.cell h b o = some (slice a n m) ∧
 Br (decide (p < (↑n : Int)))
 (withAddr x fun (b o : Nat) =>
 ∃ (a : Option Addr),
 ∃ (n : Nat),
 ∃ (m : Nat),
 Heap.cell h b o = some (slice a n m) ∧
 0 ≤ p ∧
 p < (↑n : Int) ∧
 withAddr a fun (b o : Nat) =>
 ∃ (a : Option Addr),
 ∃ (n : Nat),
 ∃ (m : Nat),
 Heap.cell h b (o + Int.toNat p) = some (slice a n m) ∧
 0 ≤ c ∧
 c < (↑n : Int) ∧
 withAddr a fun (b o : Nat) =>
 ∃ (n : Int),
 Heap.cell h b (o + Int.toNat c) = some (int IntKind.i64 n) ∧
 CallA Try.prog fn_ref01_Of [int IntKind.i64 n] h fun (v : Value) (h : Heap) =>
 ∃ (b : Bool),
 ∃ (a : Option Addr),
 ∃ (n : Nat),
 ∃ (m : Nat),
 v = agg #[Value.bool b, slice a n m] ∧
 newB h [Value.bool false, slice none 0 0] 118 fun (r : Nat) (h : Heap) =>
 Heap.canSt h r 0 2 ∧ L_pref15_Lenders_Give_2 x c l ln lc p r 0 (Heap.setN h r 0 [Value.bool b, slice a n m]) K)
 (L_pref15_Lenders_Give_3 x c l ln lc 0 h K)
theorem L_pref15_Lenders_Give_1r (x : Option Addr) (c : Int) (l : Option Addr) (ln : Nat) (lc : Nat) (p : Int) (h : Heap) (K : Value → Heap → Prop) (k : L_pref15_Lenders_Give_1T x c l ln lc p h K) : L_pref15_Lenders_Give_1 x c l ln lc p h K :=
 LoopAt.of_ev (cs := []) Try.func34 mixed (fun junk => by kernel_rfl) k
def L_pref15_Lenders_Give_2T (x : Option Addr) (c : Int) (l : Option Addr) (ln : Nat) (lc : Nat) (p : Int) (sum : Nat) (i : Int) (h : Heap) (K : Value → Heap → Prop) : Prop :=
 Br (decide (i < (↑ln : Int)))
 (0 ≤ i ∧
 i < (↑ln : Int) ∧
 withAddr l fun (b o : Nat) =>
 ∃ (n : Int),
 Heap.cell h b (o + Int.toNat i * 2) = some (int IntKind.i64 n) ∧
 Br (n == p)
 (∃ (b : Bool),
 Heap.cell h sum 0 = some (Value.bool b) ∧
 ∃ (a : Option Addr),
 ∃ (n : Nat),
 ∃ (m : Nat),
 Heap.cell h sum 1 = some (slice a n m) ∧
 0 ≤ i ∧
 i < (↑ln : Int) ∧
 withAddr l fun (b_1 o : Nat) =>
 ∃ (n_1 : Int),
 Heap.cell h b_1 (o + Int.toNat i * 2 + 1) = some (int IntKind.i64 n_1) ∧
 CallA Try.prog fn_ref01_Of [int IntKind.i64 n_1] h fun (v : Value) (h_1 : Heap) =>
 ∃ (b_2 : Bool),
 ∃ (a_1 : Option Addr),
 ∃ (n_2 : Nat),
 ∃ (m_1 : Nat),
 v = agg #[Value.bool b_2, slice a_1 n_2 m_1] ∧
 (Heap.le h h_1 ∨ Keeps [sum] h h_1) ∧
 CallA Try.prog fn_ref01_Add [agg #[Value.bool b, slice a n m], agg #[Value.bool b_2, slice a_1 n_2 m_1]] h_1 fun (v : Value) (h : Heap) =>
 ∃ (b : Bool),
 ∃ (a : Option Addr),
 ∃ (n : Nat),
 ∃ (m : Nat),
 v = agg #[Value.bool b, slice a n m] ∧
 Heap.canSt h sum 0 2 ∧ L_pref15_Lenders_Give_2 x c l ln lc p sum (IntKind.wrap IntKind.i64 (i + 1)) (Heap.setN h sum 0 [Value.bool b, slice a n m]) K)
 (L_pref15_Lenders_Give_2 x c l ln lc p sum (IntKind.wrap IntKind.i64 (i + 1)) h K))
 (∃ (b : Bool),
 Heap.cell h sum 0 = some (Value.bool b) ∧
 ∃ (a : Option Addr),
 ∃ (n : Nat),
 ∃ (m : Nat),
 Heap.cell h sum 1 = some (slice a n m) ∧
 CallA Try.prog fn_ref01_Fit [agg #[Value.bool b, slice a n m]] h fun (v : Value) (h : Heap) =>
 ∃ (n : Int), ∃ (n_1 : Int), v = tuple #[int IntKind.i64 n, int IntKind.i64 n_1] ∧ Br (n_1 != 0) (Ret h K (int IntKind.i64 n_1)) (L_pref15_Lenders_Give_1 x c l ln lc (IntKind.wrap IntKind.i64 (p + 1)) h K))
theorem L_pref15_Lenders_Give_2r (x : Option Addr) (c : Int) (l : Option Addr) (ln : Nat) (lc : Nat) (p : Int) (sum : Nat) (i : Int) (h : Heap) (K : Value → Heap → Prop) (k : L_pref15_Lenders_Give_2T x c l ln lc p sum i h K) : L_pref15_Lenders_Give_2 x c l ln lc p sum i h K :=
 LoopAt.of_ev (cs := []) Try.func34 mixed (fun junk => by kernel_rfl) k
def L_pref15_Lenders_Give_3T (x : Option Addr) (c : Int) (l : Option Addr) (ln : Nat) (lc : Nat) (i : Int) (h : Heap) (K : Value → Heap → Prop) : Prop :=
 Br (decide (i < (↑ln : Int)))
 (withAddr x fun (b o : Nat) =>
 ∃ (a : Option Addr),
 ∃ (n : Nat),
 ∃ (m : Nat),
 Heap.cell h b o = some (slice a n m) ∧
 0 ≤ i ∧
 i < (↑ln : Int) ∧
 withAddr l fun (b o : Nat) =>
 ∃ (n_1 : Int),
 Heap.cell h b (o + Int.toNat i * 2) = some (int IntKind.i64 n_1) ∧
 0 ≤ n_1 ∧
 n_1 < (↑n : Int) ∧
 withAddr a fun (b o : Nat) =>
 ∃ (a : Option Addr),
 ∃ (n : Nat),
 ∃ (m : Nat),
 Heap.cell h b (o + Int.toNat n_1) = some (slice a n m) ∧
 withAddr x fun (b o : Nat) =>
 ∃ (a_1 : Option Addr),
 ∃ (n_2 : Nat),
 ∃ (m : Nat),
 Heap.cell h b o = some (slice a_1 n_2 m) ∧
 0 ≤ i ∧
 i < (↑ln : Int) ∧
 withAddr l fun (b o : Nat) =>
 ∃ (n_3 : Int),
 Heap.cell h b (o + Int.toNat i * 2) = some (int IntKind.i64 n_3) ∧
 0 ≤ n_3 ∧
 n_3 < (↑n_2 : Int) ∧
 withAddr a_1 fun (b o : Nat) =>
 ∃ (a_2 : Option Addr),
 ∃ (n_4 : Nat),
 ∃ (m : Nat),
 Heap.cell h b (o + Int.toNat n_3) = some (slice a_2 n_4 m) ∧
 0 ≤ c ∧
 c < (↑n_4 : Int) ∧
 withAddr a_2 fun (b o : Nat) =>
 ∃ (n_5 : Int),
 Heap.cell h b (o + Int.toNat c) = some (int IntKind.i64 n_5) ∧
 0 ≤ i ∧
 i < (↑ln : Int) ∧
 withAddr l fun (b o : Nat) =>
 ∃ (n_6 : Int),
 Heap.cell h b (o + Int.toNat i * 2 + 1) = some (int IntKind.i64 n_6) ∧
 0 ≤ c ∧
 c < (↑n : Int) ∧
 withAddr a fun (b o : Nat) =>
 Heap.canSt h b (o + Int.toNat c) 1 ∧
 L_pref15_Lenders_Give_3 x c l ln lc (IntKind.wrap IntKind.i64 (i + 1))
 (Heap.setN h b (o + Int.toNat c) [int IntKind.i64 (IntKind.wrap IntKind.i64 (n_5 + n_6))]) K)
 (Ret h K (int IntKind.i64 0))
theorem L_pref15_Lenders_Give_3r (x : Option Addr) (c : Int) (l : Option Addr) (ln : Nat) (lc : Nat) (i : Int) (h : Heap) (K : Value → Heap → Prop) (k : L_pref15_Lenders_Give_3T x c l ln lc i h K) : L_pref15_Lenders_Give_3 x c l ln lc i h K :=
 LoopAt.of_ev (cs := []) Try.func34 mixed (fun junk => by kernel_rfl) k
def F_pref15_Lenders_GiveT (x : Option Addr) (c : Int) (l : Option Addr) (ln : Nat) (lc : Nat) (h : Heap) (K : Value → Heap → Prop) : Prop :=
 Br (decide (c < 0)) (Ret h K (int IntKind.i64 1))
 (withAddr x fun (b o : Nat) => ∃ (n : Int), Heap.cell h b (o + 2) = some (int IntKind.i64 n) ∧ Br (decide (c ≥ n)) (Ret h K (int IntKind.i64 1)) (L_pref15_Lenders_Give_0 x c l ln lc 0 h K))
theorem F_pref15_Lenders_Give (x : Option Addr) (c : Int) (l : Option Addr) (ln : Nat) (lc : Nat) (h : Heap) (K : Value → Heap → Prop) (k : F_pref15_Lenders_GiveT x c l ln lc h K) : CallA Try.prog fn_pref15_Lenders_Give [pointer x, int IntKind.i64 c, slice l ln lc] h K :=
 CallA.of_ev (cs := []) Try.func34 (by kernel_rfl) (fun _ _ => Try.call34 _ _) mixed (by kernel_rfl) (by kernel_rfl) k
def F_pref15_Lenders_FailT (x : Option Addr) (p : Int) (h : Heap) (K : Value → Heap → Prop) : Prop :=
 Br (decide (p < 0)) (Ret h K (int IntKind.i64 5))
 (withAddr x fun (b o : Nat) =>
 ∃ (a : Option Addr),
 ∃ (n : Nat),
 ∃ (m : Nat),
 Heap.cell h b o = some (slice a n m) ∧
 Br (decide (p ≥ (↑n : Int))) (Ret h K (int IntKind.i64 5))
 (withAddr x fun (b o : Nat) =>
 ∃ (a : Option Addr),
 ∃ (n : Nat),
 ∃ (m : Nat),
 Heap.cell h b (o + 1) = some (slice a n m) ∧
 0 ≤ p ∧
 p < (↑n : Int) ∧
 withAddr a fun (b o : Nat) =>
 ∃ (b_1 : Bool),
 Heap.cell h b (o + Int.toNat p) = some (Value.bool b_1) ∧
 Br b_1 (Ret h K (int IntKind.i64 11))
 (withAddr x fun (b o : Nat) =>
 ∃ (a : Option Addr),
 ∃ (n : Nat),
 ∃ (m : Nat),
 Heap.cell h b (o + 1) = some (slice a n m) ∧
 0 ≤ p ∧ p < (↑n : Int) ∧ withAddr a fun (b o : Nat) => Heap.canSt h b (o + Int.toNat p) 1 ∧ Ret (Heap.setN h b (o + Int.toNat p) [Value.bool true]) K (int IntKind.i64 0))))
theorem F_pref15_Lenders_Fail (x : Option Addr) (p : Int) (h : Heap) (K : Value → Heap → Prop) (k : F_pref15_Lenders_FailT x p h K) : CallA Try.prog fn_pref15_Lenders_Fail [pointer x, int IntKind.i64 p] h K :=
 CallA.of_ev (cs := []) Try.func36 (by kernel_rfl) (fun _ _ => Try.call36 _ _) mixed (by kernel_rfl) (by kernel_rfl) k
def L_pref15_Lenders_Text_0 (x : Option Addr) (s : ByteArray) (p : Int) (h : Heap) (K : Value → Heap → Prop) : Prop :=
 LoopAt Try.prog Try.f38 38 (loopK Try.f38 0) (sp 78 [(0, pointer x), (3, string s), (4, int IntKind.i64 p)]) h K
def L_pref15_Lenders_Text_1 (x : Option Addr) (s : ByteArray) (p : Int) (c : Int) (h : Heap) (K : Value → Heap → Prop) : Prop :=
 LoopAt Try.prog Try.f38 38 (loopK Try.f38 1) (sp 78 [(0, pointer x), (3, string s), (4, int IntKind.i64 p), (5, int IntKind.i64 c)]) h K
def L_pref15_Lenders_Text_2 (x : Option Addr) (s : ByteArray) (p : Int) (c : Int) (u : Int) (eight : ByteArray) (i : Int) (h : Heap) (K : Value → Heap → Prop) : Prop :=
 LoopAt Try.prog Try.f38 38 (loopK Try.f38 2) (sp 78 [(0, pointer x), (3, string s), (4, int IntKind.i64 p), (5, int IntKind.i64 c), (6, int IntKind.u64 u), (7, string eight), (8, int IntKind.i64 i)]) h K
def L_pref15_Lenders_Text_0T (x : Option Addr) (s : ByteArray) (p : Int) (h : Heap) (K : Value → Heap → Prop) : Prop :=
 withAddr x fun (b o : Nat) =>
 ∃ (a : Option Addr),
 ∃ (n : Nat),
 ∃ (m : Nat),
 Heap.cell h b o = some (slice a n m) ∧
 Br (decide (p < (↑n : Int)))
 (withAddr x fun (b o : Nat) =>
 ∃ (a : Option Addr),
 ∃ (n : Nat),
 ∃ (m : Nat),
 Heap.cell h b (o + 1) = some (slice a n m) ∧
 0 ≤ p ∧
 p < (↑n : Int) ∧
 withAddr a fun (b o : Nat) =>
 ∃ (b_1 : Bool),
 Heap.cell h b (o + Int.toNat p) = some (Value.bool b_1) ∧
 Br b_1 ((↑(ByteArray.size s + 1) : Int) ≤ 9223372036854775807 ∧ L_pref15_Lenders_Text_1 x (s ++ { data := #[1] }) p 0 h K)
 ((↑(ByteArray.size s + 1) : Int) ≤ 9223372036854775807 ∧ L_pref15_Lenders_Text_1 x (s ++ { data := #[0] }) p 0 h K))
 (Ret h K (string s))
theorem L_pref15_Lenders_Text_0r (x : Option Addr) (s : ByteArray) (p : Int) (h : Heap) (K : Value → Heap → Prop) (k : L_pref15_Lenders_Text_0T x s p h K) : L_pref15_Lenders_Text_0 x s p h K :=
 LoopAt.of_ev (cs := []) Try.func38 mixed (fun junk => by kernel_rfl) k
def L_pref15_Lenders_Text_1T (x : Option Addr) (s : ByteArray) (p : Int) (c : Int) (h : Heap) (K : Value → Heap → Prop) : Prop :=
 withAddr x fun (b o : Nat) =>
 ∃ (n : Int),
 Heap.cell h b (o + 2) = some (int IntKind.i64 n) ∧
 Br (decide (c < n))
 (withAddr x fun (b o : Nat) =>
 ∃ (a : Option Addr),
 ∃ (n : Nat),
 ∃ (m : Nat),
 Heap.cell h b o = some (slice a n m) ∧
 0 ≤ p ∧
 p < (↑n : Int) ∧
 withAddr a fun (b o : Nat) =>
 ∃ (a : Option Addr),
 ∃ (n : Nat),
 ∃ (m : Nat),
 Heap.cell h b (o + Int.toNat p) = some (slice a n m) ∧
 0 ≤ c ∧
 c < (↑n : Int) ∧ withAddr a fun (b o : Nat) => ∃ (n : Int), Heap.cell h b (o + Int.toNat c) = some (int IntKind.i64 n) ∧ L_pref15_Lenders_Text_2 x s p c (IntKind.wrap IntKind.u64 n) { data := #[] } 0 h K)
 (L_pref15_Lenders_Text_0 x s (IntKind.wrap IntKind.i64 (p + 1)) h K)
theorem L_pref15_Lenders_Text_1r (x : Option Addr) (s : ByteArray) (p : Int) (c : Int) (h : Heap) (K : Value → Heap → Prop) (k : L_pref15_Lenders_Text_1T x s p c h K) : L_pref15_Lenders_Text_1 x s p c h K :=
 LoopAt.of_ev (cs := []) Try.func38 mixed (fun junk => by kernel_rfl) k
def L_pref15_Lenders_Text_2T (x : Option Addr) (s : ByteArray) (p : Int) (c : Int) (u : Int) (eight : ByteArray) (i : Int) (h : Heap) (K : Value → Heap → Prop) : Prop :=
 Br (decide (i < 8))
 (newB h [int IntKind.u8 (IntKind.wrap IntKind.u8 (Int.tmod u 256))] 5 fun (r : Nat) (h : Heap) =>
 StrA h (some { block := r, off := 0 }) 1 fun (s_1 : ByteArray) =>
 (↑(ByteArray.size s_1 + ByteArray.size eight) : Int) ≤ 9223372036854775807 ∧ L_pref15_Lenders_Text_2 x s p c (IntKind.wrap IntKind.u64 (Int.tdiv u 256)) (s_1 ++ eight) (IntKind.wrap IntKind.i64 (i + 1)) h K)
 ((↑(ByteArray.size s + ByteArray.size eight) : Int) ≤ 9223372036854775807 ∧ L_pref15_Lenders_Text_1 x (s ++ eight) p (IntKind.wrap IntKind.i64 (c + 1)) h K)
theorem L_pref15_Lenders_Text_2r (x : Option Addr) (s : ByteArray) (p : Int) (c : Int) (u : Int) (eight : ByteArray) (i : Int) (h : Heap) (K : Value → Heap → Prop) (k : L_pref15_Lenders_Text_2T x s p c u eight i h K) : L_pref15_Lenders_Text_2 x s p c u eight i h K :=
 LoopAt.of_ev (cs := []) Try.func38 mixed (fun junk => by kernel_rfl) k
def F_pref15_Lenders_TextT (x : Option Addr) (h : Heap) (K : Value → Heap → Prop) : Prop :=
 withAddr x fun (b o : Nat) =>
 ∃ (a : Option Addr),
 ∃ (n : Nat),
 ∃ (m : Nat),
 Heap.cell h b o = some (slice a n m) ∧
 withAddr x fun (b o : Nat) =>
 ∃ (n_1 : Int),
 Heap.cell h b (o + 2) = some (int IntKind.i64 n_1) ∧
 newB h [int IntKind.u8 (IntKind.wrap IntKind.u8 (↑n : Int)), int IntKind.u8 (IntKind.wrap IntKind.u8 n_1)] 5 fun (r : Nat) (h : Heap) =>
 StrA h (some { block := r, off := 0 }) 2 fun (s : ByteArray) => L_pref15_Lenders_Text_0 x s 0 h K
theorem F_pref15_Lenders_Text (x : Option Addr) (h : Heap) (K : Value → Heap → Prop) (k : F_pref15_Lenders_TextT x h K) : CallA Try.prog fn_pref15_Lenders_Text [pointer x] h K :=
 CallA.of_ev (cs := []) Try.func38 (by kernel_rfl) (fun _ _ => Try.call38 _ _) mixed (by kernel_rfl) (by kernel_rfl) k
def L_ref15_Read_0 (s : ByteArray) (lines : Option Addr) (linesn : Nat) (linesc : Nat) (bad : Option Addr) (badn : Nat) (badc : Nat) (at' : Int) (p : Int) (h : Heap) (K : Value → Heap → Prop) : Prop :=
 LoopAt Try.prog Try.f43 43 (loopK Try.f43 0) (sp 102 [(0, string s), (4, slice lines linesn linesc), (5, slice bad badn badc), (6, int IntKind.i64 at'), (7, int IntKind.i64 p)]) h K
def L_ref15_Read_1 (s : ByteArray) (lines : Option Addr) (linesn : Nat) (linesc : Nat) (bad : Option Addr) (badn : Nat) (badc : Nat) (at' : Int) (p : Int) (row : Option Addr) (rown : Nat) (rowc : Nat) (c : Int) (h : Heap) (K : Value → Heap → Prop) : Prop :=
 LoopAt Try.prog Try.f43 43 (loopK Try.f43 1) (sp 102 [(0, string s), (4, slice lines linesn linesc), (5, slice bad badn badc), (6, int IntKind.i64 at'), (7, int IntKind.i64 p), (8, slice row rown rowc), (9, int IntKind.i64 c)]) h K
def L_ref15_Read_2 (s : ByteArray) (lines : Option Addr) (linesn : Nat) (linesc : Nat) (bad : Option Addr) (badn : Nat) (badc : Nat) (at' : Int) (p : Int) (row : Option Addr) (rown : Nat) (rowc : Nat) (c : Int) (n : Int) (i : Int) (h : Heap) (K : Value → Heap → Prop) : Prop :=
 LoopAt Try.prog Try.f43 43 (loopK Try.f43 2) (sp 102 [(0, string s), (4, slice lines linesn linesc), (5, slice bad badn badc), (6, int IntKind.i64 at'), (7, int IntKind.i64 p), (8, slice row rown rowc), (9, int IntKind.i64 c), (10, int IntKind.u64 n),
 (11, int IntKind.i64 i)]) h K
def L_ref15_Read_0T (s : ByteArray) (lines : Option Addr) (linesn : Nat) (linesc : Nat) (bad : Option Addr) (badn : Nat) (badc : Nat) (at' : Int) (p : Int) (h : Heap) (K : Value → Heap → Prop) : Prop :=
 (0 : Int) ≤ 0 ∧
 ∃ (c : UInt8),
 s[0]? = some c ∧
 Br (decide (p < IntKind.wrap IntKind.i64 (↑(UInt8.toNat c) : Int)))
 (0 ≤ at' ∧
 ∃ (c : UInt8),
 s[Int.toNat at']? = some c ∧
 Br (decide ((↑(UInt8.toNat c) : Int) > 1)) (Ret h K (tuple #[pointer none, int IntKind.i64 2]))
 (0 ≤ at' ∧
 ∃ (c : UInt8),
 s[Int.toNat at']? = some c ∧
 newB h [Value.bool ((↑(UInt8.toNat c) : Int) == 1)] 4 fun (r : Nat) (h : Heap) =>
 AppA [Value.bool false] 4 h bad badn badc 1 (some { block := r, off := 0 }) fun (ap : Option Addr) (cp : Nat) (h : Heap) =>
 newB h [] 2 fun (r : Nat) (h : Heap) => L_ref15_Read_1 s lines linesn linesc ap (badn + 1) cp (IntKind.wrap IntKind.i64 (at' + 1)) p (some { block := r, off := 0 }) 0 0 0 h K))
 ((0 : Int) ≤ 1 ∧
 ∃ (c : UInt8),
 s[1]? = some c ∧
 CallA Try.prog fn_ref15_New [slice lines linesn linesc, int IntKind.i64 (IntKind.wrap IntKind.i64 (↑(UInt8.toNat c) : Int))] h fun (v : Value) (h : Heap) =>
 ∃ (a : Option Addr),
 ∃ (n : Int),
 v = tuple #[pointer a, int IntKind.i64 n] ∧
 Br (n != 0) (Ret h K (tuple #[pointer none, int IntKind.i64 2]))
 (withAddr a fun (b o : Nat) => Heap.canSt h b (o + 1) 1 ∧ Ret (Heap.setN h b (o + 1) [slice bad badn badc]) K (tuple #[pointer a, int IntKind.i64 0])))
theorem L_ref15_Read_0r (s : ByteArray) (lines : Option Addr) (linesn : Nat) (linesc : Nat) (bad : Option Addr) (badn : Nat) (badc : Nat) (at' : Int) (p : Int) (h : Heap) (K : Value → Heap → Prop) (k : L_ref15_Read_0T s lines linesn linesc bad badn badc at' p h K) : L_ref15_Read_0 s lines linesn linesc bad badn badc at' p h K :=
 LoopAt.of_ev (cs := []) Try.func43 mixed (fun junk => by kernel_rfl) k
def L_ref15_Read_1T (s : ByteArray) (lines : Option Addr) (linesn : Nat) (linesc : Nat) (bad : Option Addr) (badn : Nat) (badc : Nat) (at' : Int) (p : Int) (row : Option Addr) (rown : Nat) (rowc : Nat) (c : Int) (h : Heap) (K : Value → Heap → Prop) : Prop :=
 (0 : Int) ≤ 1 ∧
 ∃ (c_1 : UInt8),
 s[1]? = some c_1 ∧
 Br (decide (c < IntKind.wrap IntKind.i64 (↑(UInt8.toNat c_1) : Int))) (L_ref15_Read_2 s lines linesn linesc bad badn badc at' p row rown rowc c 0 at' h K)
 (newB h [slice row rown rowc] 36 fun (r : Nat) (h : Heap) =>
 AppA [slice none 0 0] 36 h lines linesn linesc 1 (some { block := r, off := 0 }) fun (ap : Option Addr) (cp : Nat) (h : Heap) =>
 L_ref15_Read_0 s ap (linesn + 1) cp bad badn badc at' (IntKind.wrap IntKind.i64 (p + 1)) h K)
theorem L_ref15_Read_1r (s : ByteArray) (lines : Option Addr) (linesn : Nat) (linesc : Nat) (bad : Option Addr) (badn : Nat) (badc : Nat) (at' : Int) (p : Int) (row : Option Addr) (rown : Nat) (rowc : Nat) (c : Int) (h : Heap) (K : Value → Heap → Prop) (k : L_ref15_Read_1T s lines linesn linesc bad badn badc at' p row rown rowc c h K) : L_ref15_Read_1 s lines linesn linesc bad badn badc at' p row rown rowc c h K :=
 LoopAt.of_ev (cs := []) Try.func43 mixed (fun junk => by kernel_rfl) k
def L_ref15_Read_2T (s : ByteArray) (lines : Option Addr) (linesn : Nat) (linesc : Nat) (bad : Option Addr) (badn : Nat) (badc : Nat) (at' : Int) (p : Int) (row : Option Addr) (rown : Nat) (rowc : Nat) (c : Int) (n : Int) (i : Int) (h : Heap) (K : Value → Heap → Prop) : Prop :=
 Br (decide (i < IntKind.wrap IntKind.i64 (at' + 8)))
 (0 ≤ i ∧
 ∃ (c_1 : UInt8),
 s[Int.toNat i]? = some c_1 ∧
 L_ref15_Read_2 s lines linesn linesc bad badn badc at' p row rown rowc c (IntKind.wrap IntKind.u64 (IntKind.wrap IntKind.u64 (n * 256) + IntKind.wrap IntKind.u64 (↑(UInt8.toNat c_1) : Int)))
 (IntKind.wrap IntKind.i64 (i + 1)) h K)
 (newB h [int IntKind.i64 (IntKind.wrap IntKind.i64 n)] 2 fun (r : Nat) (h : Heap) =>
 AppA [int IntKind.i64 0] 2 h row rown rowc 1 (some { block := r, off := 0 }) fun (ap : Option Addr) (cp : Nat) (h : Heap) =>
 L_ref15_Read_1 s lines linesn linesc bad badn badc (IntKind.wrap IntKind.i64 (at' + 8)) p ap (rown + 1) cp (IntKind.wrap IntKind.i64 (c + 1)) h K)
theorem L_ref15_Read_2r (s : ByteArray) (lines : Option Addr) (linesn : Nat) (linesc : Nat) (bad : Option Addr) (badn : Nat) (badc : Nat) (at' : Int) (p : Int) (row : Option Addr) (rown : Nat) (rowc : Nat) (c : Int) (n : Int) (i : Int) (h : Heap) (K : Value → Heap → Prop) (k : L_ref15_Read_2T s lines linesn linesc bad badn badc at' p row rown rowc c n i h K) : L_ref15_Read_2 s lines linesn linesc bad badn badc at' p row rown rowc c n i h K :=
 LoopAt.of_ev (cs := []) Try.func43 mixed (fun junk => by kernel_rfl) k
def F_ref15_ReadT (s : ByteArray) (h : Heap) (K : Value → Heap → Prop) : Prop :=
 Br (decide ((↑(ByteArray.size s) : Int) < 2)) (Ret h K (tuple #[pointer none, int IntKind.i64 2]))
 ((0 : Int) ≤ 0 ∧
 ∃ (c : UInt8),
 s[0]? = some c ∧
 (0 : Int) ≤ 1 ∧
 ∃ (c_1 : UInt8),
 s[1]? = some c_1 ∧
 Br
 ((↑(ByteArray.size s) : Int) !=
 IntKind.wrap IntKind.i64
 (2 + IntKind.wrap IntKind.i64 (IntKind.wrap IntKind.i64 (↑(UInt8.toNat c) : Int) * IntKind.wrap IntKind.i64 (1 + IntKind.wrap IntKind.i64 (8 * IntKind.wrap IntKind.i64 (↑(UInt8.toNat c_1) : Int))))))
 (Ret h K (tuple #[pointer none, int IntKind.i64 2]))
 (newB h [] 36 fun (r : Nat) (h : Heap) => newB h [] 4 fun (r_1 : Nat) (h : Heap) => L_ref15_Read_0 s (some { block := r, off := 0 }) 0 0 (some { block := r_1, off := 0 }) 0 0 2 0 h K))
theorem F_ref15_Read (s : ByteArray) (h : Heap) (K : Value → Heap → Prop) (k : F_ref15_ReadT s h K) : CallA Try.prog fn_ref15_Read [string s] h K :=
 CallA.of_ev (cs := []) Try.func43 (by kernel_rfl) (fun _ _ => Try.call43 _ _) mixed (by kernel_rfl) (by kernel_rfl) k
def L_ref15_Same_0 (a : Option Addr) (an : Nat) (ac : Nat) (b : Option Addr) (bn : Nat) (bc : Nat) (i : Int) (h : Heap) (K : Value → Heap → Prop) : Prop :=
 LoopAt Try.prog Try.f31 31 (loopK Try.f31 0) (sp 26 [(0, slice a an ac), (1, slice b bn bc), (5, int IntKind.i64 i)]) h K
def L_ref15_Same_0T (a : Option Addr) (an : Nat) (ac : Nat) (b : Option Addr) (bn : Nat) (bc : Nat) (i : Int) (h : Heap) (K : Value → Heap → Prop) : Prop :=
 Br (decide (i < (↑an : Int)))
 (0 ≤ i ∧
 i < (↑an : Int) ∧
 withAddr a fun (b_1 o : Nat) =>
 ∃ (n : Int),
 Heap.cell h b_1 (o + Int.toNat i * 2) = some (int IntKind.i64 n) ∧
 ∃ (n_1 : Int),
 Heap.cell h b_1 (o + Int.toNat i * 2 + 1) = some (int IntKind.i64 n_1) ∧
 0 ≤ i ∧
 i < (↑bn : Int) ∧
 withAddr b fun (b_2 o : Nat) =>
 ∃ (n_2 : Int),
 Heap.cell h b_2 (o + Int.toNat i * 2) = some (int IntKind.i64 n_2) ∧
 ∃ (n_3 : Int),
 Heap.cell h b_2 (o + Int.toNat i * 2 + 1) = some (int IntKind.i64 n_3) ∧
 Br (!(n == n_2 && (n_1 == n_3 && true))) (Ret h K (Value.bool false)) (L_ref15_Same_0 a an ac b bn bc (IntKind.wrap IntKind.i64 (i + 1)) h K))
 (Ret h K (Value.bool true))
theorem L_ref15_Same_0r (a : Option Addr) (an : Nat) (ac : Nat) (b : Option Addr) (bn : Nat) (bc : Nat) (i : Int) (h : Heap) (K : Value → Heap → Prop) (k : L_ref15_Same_0T a an ac b bn bc i h K) : L_ref15_Same_0 a an ac b bn bc i h K :=
 LoopAt.of_ev (cs := []) Try.func31 mixed (fun junk => by kernel_rfl) k
def F_ref15_SameT (a : Option Addr) (an : Nat) (ac : Nat) (b : Option Addr) (bn : Nat) (bc : Nat) (h : Heap) (K : Value → Heap → Prop) : Prop :=
 Br ((↑an : Int) != (↑bn : Int)) (Ret h K (Value.bool false)) (L_ref15_Same_0 a an ac b bn bc 0 h K)
theorem F_ref15_Same (a : Option Addr) (an : Nat) (ac : Nat) (b : Option Addr) (bn : Nat) (bc : Nat) (h : Heap) (K : Value → Heap → Prop) (k : F_ref15_SameT a an ac b bn bc h K) : CallA Try.prog fn_ref15_Same [slice a an ac, slice b bn bc] h K :=
 CallA.of_ev (cs := []) Try.func31 (by kernel_rfl) (fun _ _ => Try.call31 _ _) mixed (by kernel_rfl) (by kernel_rfl) k
end Go.Proofs.Ytkcogdmddhkldaa
