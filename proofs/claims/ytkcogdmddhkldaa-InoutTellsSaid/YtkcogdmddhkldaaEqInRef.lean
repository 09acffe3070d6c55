import Derived.Test.YtkcogdmddhkldaaEqN
namespace Go.Proofs.Ytkcogdmddhkldaa
open Go Go.Sy Go.Value
set_option linter.unusedVariables false
set_option maxRecDepth 100000
def L_ref14_Propose_0 (t : Option Addr) (tn : Nat) (tc : Nat) (net : Option Addr) (netn : Nat) (netc : Nat) (least : Int) (now : Option Addr) (nown : Nat) (nowc : Nat) (m : Int) (h : Heap) (K : Value → Heap → Prop) : Prop :=
 LoopAt Try.prog Try.f17 17 (loopK Try.f17 0) (sp 223 [(0, slice t tn tc), (1, slice net netn netc), (2, int IntKind.i64 least), (10, slice now nown nowc), (11, int IntKind.i64 m)]) h K
def L_ref14_Propose_1 (t : Option Addr) (tn : Nat) (tc : Nat) (least : Int) (now : Option Addr) (nown : Nat) (nowc : Nat) (out : Option Addr) (outn : Nat) (outc : Nat) (c : Int) (h : Heap) (K : Value → Heap → Prop) : Prop :=
 LoopAt Try.prog Try.f17 17 (loopK Try.f17 1) (sp 223 [(0, slice t tn tc), (2, int IntKind.i64 least), (10, slice now nown nowc), (12, slice out outn outc), (13, int IntKind.i64 c)]) h K
def L_ref14_Propose_2 (t : Option Addr) (tn : Nat) (tc : Nat) (least : Int) (now : Option Addr) (nown : Nat) (nowc : Nat) (out : Option Addr) (outn : Nat) (outc : Nat) (c : Int) (to : Int) (h : Heap) (K : Value → Heap → Prop) : Prop :=
 LoopAt Try.prog Try.f17 17 (loopK Try.f17 2) (sp 223 [(0, slice t tn tc), (2, int IntKind.i64 least), (10, slice now nown nowc), (12, slice out outn outc), (13, int IntKind.i64 c), (14, int IntKind.i64 to)]) h K
def L_ref14_Propose_3 (t : Option Addr) (tn : Nat) (tc : Nat) (least : Int) (now : Option Addr) (nown : Nat) (nowc : Nat) (out : Option Addr) (outn : Nat) (outc : Nat) (c : Int) (to : Int) (from' : Int) (h : Heap) (K : Value → Heap → Prop) : Prop :=
 LoopAt Try.prog Try.f17 17 (loopK Try.f17 3) (sp 223 [(0, slice t tn tc), (2, int IntKind.i64 least), (10, slice now nown nowc), (12, slice out outn outc), (13, int IntKind.i64 c), (14, int IntKind.i64 to), (15, int IntKind.i64 from')]) h K
def L_ref14_Propose_1026 (t : Option Addr) (tn : Nat) (tc : Nat) (least : Int) (now : Option Addr) (nown : Nat) (nowc : Nat) (out : Option Addr) (outn : Nat) (outc : Nat) (c : Int) (to : Int) (from' : Int) (h : Heap) (K : Value → Heap → Prop) : Prop :=
 CutAt Try.prog Try.f17 17 (cutK Try.f17 26) (sp 223 [(0, slice t tn tc), (2, int IntKind.i64 least), (10, slice now nown nowc), (12, slice out outn outc), (13, int IntKind.i64 c), (14, int IntKind.i64 to), (15, int IntKind.i64 from')]) h K
def L_ref14_Propose_1029 (t : Option Addr) (tn : Nat) (tc : Nat) (least : Int) (now : Option Addr) (nown : Nat) (nowc : Nat) (out : Option Addr) (outn : Nat) (outc : Nat) (c : Int) (to : Int) (from' : Int) (size : Int) (h : Heap) (K : Value → Heap → Prop) : Prop :=
 CutAt Try.prog Try.f17 17 (cutK Try.f17 29) (sp 223 [(0, slice t tn tc), (2, int IntKind.i64 least), (10, slice now nown nowc), (12, slice out outn outc), (13, int IntKind.i64 c), (14, int IntKind.i64 to), (15, int IntKind.i64 from'), (16, int IntKind.i64 size)]) h K
def L_ref14_Propose_1031 (t : Option Addr) (tn : Nat) (tc : Nat) (least : Int) (now : Option Addr) (nown : Nat) (nowc : Nat) (out : Option Addr) (outn : Nat) (outc : Nat) (c : Int) (to : Int) (from' : Int) (amount : Int) (h : Heap) (K : Value → Heap → Prop) : Prop :=
 CutAt Try.prog Try.f17 17 (cutK Try.f17 31) (sp 223 [(0, slice t tn tc), (2, int IntKind.i64 least), (10, slice now nown nowc), (12, slice out outn outc), (13, int IntKind.i64 c), (14, int IntKind.i64 to), (15, int IntKind.i64 from'), (18, int IntKind.i64 amount)]) h K
def L_ref14_Propose_1033 (t : Option Addr) (tn : Nat) (tc : Nat) (least : Int) (now : Option Addr) (nown : Nat) (nowc : Nat) (out : Option Addr) (outn : Nat) (outc : Nat) (c : Int) (to : Int) (from' : Int) (amount : Int) (base : Int) (g : Int) (less : Int) (h' : Int) (h : Heap) (K : Value → Heap → Prop) : Prop :=
 CutAt Try.prog Try.f17 17 (cutK Try.f17 33) (sp 223 [(0, slice t tn tc), (2, int IntKind.i64 least), (10, slice now nown nowc), (12, slice out outn outc), (13, int IntKind.i64 c), (14, int IntKind.i64 to), (15, int IntKind.i64 from'), (18, int IntKind.i64 amount),
 (19, int IntKind.i64 base), (20, int IntKind.i64 g), (21, int IntKind.i64 less), (22, int IntKind.i64 h')]) h K
def L_ref14_Propose_1036 (t : Option Addr) (tn : Nat) (tc : Nat) (least : Int) (now : Option Addr) (nown : Nat) (nowc : Nat) (out : Option Addr) (outn : Nat) (outc : Nat) (c : Int) (to : Int) (from' : Int) (amount : Int) (base : Int) (less : Int) (more : Int) (h : Heap) (K : Value → Heap → Prop) : Prop :=
 CutAt Try.prog Try.f17 17 (cutK Try.f17 36) (sp 223 [(0, slice t tn tc), (2, int IntKind.i64 least), (10, slice now nown nowc), (12, slice out outn outc), (13, int IntKind.i64 c), (14, int IntKind.i64 to), (15, int IntKind.i64 from'), (18, int IntKind.i64 amount),
 (19, int IntKind.i64 base), (21, int IntKind.i64 less), (23, int IntKind.i64 more)]) h K
def L_ref14_Propose_1037 (t : Option Addr) (tn : Nat) (tc : Nat) (least : Int) (now : Option Addr) (nown : Nat) (nowc : Nat) (out : Option Addr) (outn : Nat) (outc : Nat) (c : Int) (to : Int) (from' : Int) (amount : Int) (base : Int) (more : Int) (h : Heap) (K : Value → Heap → Prop) : Prop :=
 CutAt Try.prog Try.f17 17 (cutK Try.f17 37) (sp 223 [(0, slice t tn tc), (2, int IntKind.i64 least), (10, slice now nown nowc), (12, slice out outn outc), (13, int IntKind.i64 c), (14, int IntKind.i64 to), (15, int IntKind.i64 from'), (18, int IntKind.i64 amount),
 (19, int IntKind.i64 base), (23, int IntKind.i64 more)]) h K
def L_ref14_Propose_1038 (t : Option Addr) (tn : Nat) (tc : Nat) (least : Int) (now : Option Addr) (nown : Nat) (nowc : Nat) (out : Option Addr) (outn : Nat) (outc : Nat) (c : Int) (to : Int) (from' : Int) (amount : Int) (base : Int) (h : Heap) (K : Value → Heap → Prop) : Prop :=
 CutAt Try.prog Try.f17 17 (cutK Try.f17 38) (sp 223 [(0, slice t tn tc), (2, int IntKind.i64 least), (10, slice now nown nowc), (12, slice out outn outc), (13, int IntKind.i64 c), (14, int IntKind.i64 to), (15, int IntKind.i64 from'), (18, int IntKind.i64 amount),
 (19, int IntKind.i64 base)]) h K
def L_ref14_Propose_1039 (t : Option Addr) (tn : Nat) (tc : Nat) (least : Int) (now : Option Addr) (nown : Nat) (nowc : Nat) (out : Option Addr) (outn : Nat) (outc : Nat) (c : Int) (to : Int) (from' : Int) (amount : Int) (base : Int) (h : Heap) (K : Value → Heap → Prop) : Prop :=
 CutAt Try.prog Try.f17 17 (cutK Try.f17 39) (sp 223 [(0, slice t tn tc), (2, int IntKind.i64 least), (10, slice now nown nowc), (12, slice out outn outc), (13, int IntKind.i64 c), (14, int IntKind.i64 to), (15, int IntKind.i64 from'), (18, int IntKind.i64 amount),
 (19, int IntKind.i64 base)]) h K
def L_ref14_Propose_1040 (t : Option Addr) (tn : Nat) (tc : Nat) (least : Int) (now : Option Addr) (nown : Nat) (nowc : Nat) (out : Option Addr) (outn : Nat) (outc : Nat) (c : Int) (to : Int) (from' : Int) (amount : Int) (base : Int) (h : Heap) (K : Value → Heap → Prop) : Prop :=
 CutAt Try.prog Try.f17 17 (cutK Try.f17 40) (sp 223 [(0, slice t tn tc), (2, int IntKind.i64 least), (10, slice now nown nowc), (12, slice out outn outc), (13, int IntKind.i64 c), (14, int IntKind.i64 to), (15, int IntKind.i64 from'), (18, int IntKind.i64 amount),
 (19, int IntKind.i64 base)]) h K
def L_ref14_Propose_0T (t : Option Addr) (tn : Nat) (tc : Nat) (net : Option Addr) (netn : Nat) (netc : Nat) (least : Int) (now : Option Addr) (nown : Nat) (nowc : Nat) (m : Int) (h : Heap) (K : Value → Heap → Prop) : Prop :=
 Br (decide (m < (↑netn : Int)))
 (0 ≤ m ∧
 m < (↑netn : Int) ∧
 withAddr net fun (b o : Nat) =>
 ∃ (a : Option Addr),
 ∃ (n : Nat),
 ∃ (m_1 : Nat),
 Heap.cell h b (o + Int.toNat m) = some (slice a n m_1) ∧
 Br ((↑n : Int) != (↑tn : Int)) (Ret h K (tuple #[slice none 0 0, slice none 0 0, int IntKind.i64 1]))
 (newB h [] 2 fun (r : Nat) (h : Heap) =>
 0 ≤ m ∧
 m < (↑netn : Int) ∧
 withAddr net fun (b o : Nat) =>
 ∃ (a : Option Addr),
 ∃ (n : Nat),
 ∃ (m_2 : Nat),
 Heap.cell h b (o + Int.toNat m) = some (slice a n m_2) ∧
 AppA [int IntKind.i64 0] 2 h (some { block := r, off := 0 }) 0 0 n a fun (ap : Option Addr) (cp : Nat) (h : Heap) =>
 newB h [slice ap (0 + n) cp] 36 fun (r : Nat) (h : Heap) =>
 AppA [slice none 0 0] 36 h now nown nowc 1 (some { block := r, off := 0 }) fun (ap : Option Addr) (cp : Nat) (h : Heap) =>
 L_ref14_Propose_0 t tn tc net netn netc least ap (nown + 1) cp (IntKind.wrap IntKind.i64 (m + 1)) h K))
 (Br (decide (least < 1)) (Ret h K (tuple #[slice none 0 0, slice none 0 0, int IntKind.i64 1])) (newB h [] 123 fun (r : Nat) (h : Heap) => L_ref14_Propose_1 t tn tc least now nown nowc (some { block := r, off := 0 }) 0 0 1 h K))
theorem L_ref14_Propose_0r (t : Option Addr) (tn : Nat) (tc : Nat) (net : Option Addr) (netn : Nat) (netc : Nat) (least : Int) (now : Option Addr) (nown : Nat) (nowc : Nat) (m : Int) (h : Heap) (K : Value → Heap → Prop) (k : L_ref14_Propose_0T t tn tc net netn netc least now nown nowc m h K) : L_ref14_Propose_0 t tn tc net netn netc least now nown nowc m h K :=
 LoopAt.of_ev (cs := [26, 29, 31, 33, 36, 37, 38, 39, 40]) Try.func17 mixed (fun junk => by kernel_rfl) k
def L_ref14_Propose_1T (t : Option Addr) (tn : Nat) (tc : Nat) (least : Int) (now : Option Addr) (nown : Nat) (nowc : Nat) (out : Option Addr) (outn : Nat) (outc : Nat) (c : Int) (h : Heap) (K : Value → Heap → Prop) : Prop :=
 Br (decide (c < (↑tn : Int))) (L_ref14_Propose_2 t tn tc least now nown nowc out outn outc c 0 h K) (Ret h K (tuple #[slice out outn outc, slice now nown nowc, int IntKind.i64 0]))
theorem L_ref14_Propose_1r (t : Option Addr) (tn : Nat) (tc : Nat) (least : Int) (now : Option Addr) (nown : Nat) (nowc : Nat) (out : Option Addr) (outn : Nat) (outc : Nat) (c : Int) (h : Heap) (K : Value → Heap → Prop) (k : L_ref14_Propose_1T t tn tc least now nown nowc out outn outc c h K) : L_ref14_Propose_1 t tn tc least now nown nowc out outn outc c h K :=
 LoopAt.of_ev (cs := [26, 29, 31, 33, 36, 37, 38, 39, 40]) Try.func17 mixed (fun junk => by kernel_rfl) k
def L_ref14_Propose_2T (t : Option Addr) (tn : Nat) (tc : Nat) (least : Int) (now : Option Addr) (nown : Nat) (nowc : Nat) (out : Option Addr) (outn : Nat) (outc : Nat) (c : Int) (to : Int) (h : Heap) (K : Value → Heap → Prop) : Prop :=
 Br (decide (to < (↑nown : Int))) (L_ref14_Propose_3 t tn tc least now nown nowc out outn outc c to 0 h K) (L_ref14_Propose_1 t tn tc least now nown nowc out outn outc (IntKind.wrap IntKind.i64 (c + 1)) h K)
theorem L_ref14_Propose_2r (t : Option Addr) (tn : Nat) (tc : Nat) (least : Int) (now : Option Addr) (nown : Nat) (nowc : Nat) (out : Option Addr) (outn : Nat) (outc : Nat) (c : Int) (to : Int) (h : Heap) (K : Value → Heap → Prop) (k : L_ref14_Propose_2T t tn tc least now nown nowc out outn outc c to h K) : L_ref14_Propose_2 t tn tc least now nown nowc out outn outc c to h K :=
 LoopAt.of_ev (cs := [26, 29, 31, 33, 36, 37, 38, 39, 40]) Try.func17 mixed (fun junk => by kernel_rfl) k
def L_ref14_Propose_3T (t : Option Addr) (tn : Nat) (tc : Nat) (least : Int) (now : Option Addr) (nown : Nat) (nowc : Nat) (out : Option Addr) (outn : Nat) (outc : Nat) (c : Int) (to : Int) (from' : Int) (h : Heap) (K : Value → Heap → Prop) : Prop :=
 Br (decide (from' < (↑nown : Int)))
 (0 ≤ to ∧
 to < (↑nown : Int) ∧
 withAddr now fun (b o : Nat) =>
 ∃ (a : Option Addr),
 ∃ (n : Nat),
 ∃ (m : Nat),
 Heap.cell h b (o + Int.toNat to) = some (slice a n m) ∧
 0 ≤ c ∧
 c < (↑n : Int) ∧
 withAddr a fun (b o : Nat) =>
 ∃ (n : Int),
 Heap.cell h b (o + Int.toNat c) = some (int IntKind.i64 n) ∧
 Br (decide (n ≥ 0)) (L_ref14_Propose_3 t tn tc least now nown nowc out outn outc c to (IntKind.wrap IntKind.i64 (from' + 1)) h K)
 (0 ≤ from' ∧
 from' < (↑nown : Int) ∧
 withAddr now fun (b o : Nat) =>
 ∃ (a : Option Addr),
 ∃ (n : Nat),
 ∃ (m : Nat),
 Heap.cell h b (o + Int.toNat from') = some (slice a n m) ∧
 0 ≤ c ∧
 c < (↑n : Int) ∧
 withAddr a fun (b o : Nat) =>
 ∃ (n : Int),
 Heap.cell h b (o + Int.toNat c) = some (int IntKind.i64 n) ∧
 Br (decide (n ≤ 0)) (L_ref14_Propose_3 t tn tc least now nown nowc out outn outc c to (IntKind.wrap IntKind.i64 (from' + 1)) h K)
 (L_ref14_Propose_1026 t tn tc least now nown nowc out outn outc c to from' h K)))
 (L_ref14_Propose_2 t tn tc least now nown nowc out outn outc c (IntKind.wrap IntKind.i64 (to + 1)) h K)
theorem L_ref14_Propose_3r (t : Option Addr) (tn : Nat) (tc : Nat) (least : Int) (now : Option Addr) (nown : Nat) (nowc : Nat) (out : Option Addr) (outn : Nat) (outc : Nat) (c : Int) (to : Int) (from' : Int) (h : Heap) (K : Value → Heap → Prop) (k : L_ref14_Propose_3T t tn tc least now nown nowc out outn outc c to from' h K) : L_ref14_Propose_3 t tn tc least now nown nowc out outn outc c to from' h K :=
 LoopAt.of_ev (cs := [26, 29, 31, 33, 36, 37, 38, 39, 40]) Try.func17 mixed (fun junk => by kernel_rfl) k
def L_ref14_Propose_1026T (t : Option Addr) (tn : Nat) (tc : Nat) (least : Int) (now : Option Addr) (nown : Nat) (nowc : Nat) (out : Option Addr) (outn : Nat) (outc : Nat) (c : Int) (to : Int) (from' : Int) (h : Heap) (K : Value → Heap → Prop) : Prop :=
 0 ≤ to ∧
 to < (↑nown : Int) ∧
 withAddr now fun (b o : Nat) =>
 ∃ (a : Option Addr),
 ∃ (n : Nat),
 ∃ (m : Nat),
 Heap.cell h b (o + Int.toNat to) = some (slice a n m) ∧
 0 ≤ c ∧
 c < (↑n : Int) ∧
 withAddr a fun (b o : Nat) =>
 ∃ (n : Int),
 Heap.cell h b (o + Int.toNat c) = some (int IntKind.i64 n) ∧
 CallA Try.prog fn_ref01_Of [int IntKind.i64 n] h fun (v : Value) (h : Heap) =>
 ∃ (b : Bool),
 ∃ (a : Option Addr),
 ∃ (n : Nat),
 ∃ (m : Nat),
 v = agg #[Value.bool b, slice a n m] ∧
 CallA Try.prog fn_ref01_Turned [agg #[Value.bool b, slice a n m]] h fun (v : Value) (h : Heap) =>
 ∃ (b : Bool),
 ∃ (a : Option Addr),
 ∃ (n : Nat),
 ∃ (m : Nat),
 v = agg #[Value.bool b, slice a n m] ∧
 CallA Try.prog fn_ref01_Fit [agg #[Value.bool b, slice a n m]] h fun (v : Value) (h : Heap) =>
 ∃ (n : Int),
 ∃ (n_1 : Int),
 v = tuple #[int IntKind.i64 n, int IntKind.i64 n_1] ∧
 Br (n_1 != 0) (Ret h K (tuple #[slice none 0 0, slice none 0 0, int IntKind.i64 n_1])) (L_ref14_Propose_1029 t tn tc least now nown nowc out outn outc c to from' n h K)
theorem L_ref14_Propose_1026r (t : Option Addr) (tn : Nat) (tc : Nat) (least : Int) (now : Option Addr) (nown : Nat) (nowc : Nat) (out : Option Addr) (outn : Nat) (outc : Nat) (c : Int) (to : Int) (from' : Int) (h : Heap) (K : Value → Heap → Prop) (k : L_ref14_Propose_1026T t tn tc least now nown nowc out outn outc c to from' h K) : L_ref14_Propose_1026 t tn tc least now nown nowc out outn outc c to from' h K :=
 CutAt.of_ev (cs := [26, 29, 31, 33, 36, 37, 38, 39, 40]) Try.func17 mixed (fun junk => by kernel_rfl) k
def L_ref14_Propose_1029T (t : Option Addr) (tn : Nat) (tc : Nat) (least : Int) (now : Option Addr) (nown : Nat) (nowc : Nat) (out : Option Addr) (outn : Nat) (outc : Nat) (c : Int) (to : Int) (from' : Int) (size : Int) (h : Heap) (K : Value → Heap → Prop) : Prop :=
 0 ≤ from' ∧
 from' < (↑nown : Int) ∧
 withAddr now fun (b o : Nat) =>
 ∃ (a : Option Addr),
 ∃ (n : Nat),
 ∃ (m : Nat),
 Heap.cell h b (o + Int.toNat from') = some (slice a n m) ∧
 0 ≤ c ∧
 c < (↑n : Int) ∧
 withAddr a fun (b o : Nat) =>
 ∃ (n : Int),
 Heap.cell h b (o + Int.toNat c) = some (int IntKind.i64 n) ∧
 Br (decide ((if n < size then n else size) < least)) (L_ref14_Propose_3 t tn tc least now nown nowc out outn outc c to (IntKind.wrap IntKind.i64 (from' + 1)) h K)
 (L_ref14_Propose_1031 t tn tc least now nown nowc out outn outc c to from' (if n < size then n else size) h K)
theorem L_ref14_Propose_1029r (t : Option Addr) (tn : Nat) (tc : Nat) (least : Int) (now : Option Addr) (nown : Nat) (nowc : Nat) (out : Option Addr) (outn : Nat) (outc : Nat) (c : Int) (to : Int) (from' : Int) (size : Int) (h : Heap) (K : Value → Heap → Prop) (k : L_ref14_Propose_1029T t tn tc least now nown nowc out outn outc c to from' size h K) : L_ref14_Propose_1029 t tn tc least now nown nowc out outn outc c to from' size h K :=
 CutAt.of_ev (cs := [26, 29, 31, 33, 36, 37, 38, 39, 40]) Try.func17 mixed (fun junk => by kernel_rfl) k
def L_ref14_Propose_1031T (t : Option Addr) (tn : Nat) (tc : Nat) (least : Int) (now : Option Addr) (nown : Nat) (nowc : Nat) (out : Option Addr) (outn : Nat) (outc : Nat) (c : Int) (to : Int) (from' : Int) (amount : Int) (h : Heap) (K : Value → Heap → Prop) : Prop :=
 CallA Try.prog fn_ref03_Change [slice t tn tc, int IntKind.i64 c, int IntKind.i64 0, int IntKind.i64 amount, Value.bool false] h fun (v : Value) (h : Heap) =>
 ∃ (n : Int),
 ∃ (n_1 : Int),
 v = tuple #[int IntKind.i64 n, int IntKind.i64 n_1] ∧
 0 ≤ to ∧
 to < (↑nown : Int) ∧
 withAddr now fun (b o : Nat) =>
 ∃ (a : Option Addr),
 ∃ (n_2 : Nat),
 ∃ (m : Nat),
 Heap.cell h b (o + Int.toNat to) = some (slice a n_2 m) ∧
 (0 : Int) ≤ 0 ∧
 0 < (↑n_2 : Int) ∧
 withAddr a fun (b o : Nat) =>
 ∃ (n_3 : Int),
 Heap.cell h b o = some (int IntKind.i64 n_3) ∧
 CallA Try.prog fn_ref01_Of [int IntKind.i64 n_3] h fun (v : Value) (h : Heap) =>
 ∃ (b : Bool),
 ∃ (a : Option Addr),
 ∃ (n_4 : Nat),
 ∃ (m : Nat),
 v = agg #[Value.bool b, slice a n_4 m] ∧
 CallA Try.prog fn_ref01_Of [int IntKind.i64 n] h fun (v : Value) (h : Heap) =>
 ∃ (b_1 : Bool),
 ∃ (a_1 : Option Addr),
 ∃ (n_5 : Nat),
 ∃ (m_1 : Nat),
 v = agg #[Value.bool b_1, slice a_1 n_5 m_1] ∧
 CallA Try.prog fn_ref01_Turned [agg #[Value.bool b_1, slice a_1 n_5 m_1]] h fun (v : Value) (h : Heap) =>
 ∃ (b_2 : Bool),
 ∃ (a_2 : Option Addr),
 ∃ (n_6 : Nat),
 ∃ (m_2 : Nat),
 v = agg #[Value.bool b_2, slice a_2 n_6 m_2] ∧
 CallA Try.prog fn_ref01_Add [agg #[Value.bool b, slice a n_4 m], agg #[Value.bool b_2, slice a_2 n_6 m_2]] h fun (v : Value) (h : Heap) =>
 ∃ (b : Bool),
 ∃ (a : Option Addr),
 ∃ (n_7 : Nat),
 ∃ (m : Nat),
 v = agg #[Value.bool b, slice a n_7 m] ∧
 CallA Try.prog fn_ref01_Fit [agg #[Value.bool b, slice a n_7 m]] h fun (v : Value) (h : Heap) =>
 ∃ (n_8 : Int),
 ∃ (n_9 : Int),
 v = tuple #[int IntKind.i64 n_8, int IntKind.i64 n_9] ∧
 L_ref14_Propose_1033 t tn tc least now nown nowc out outn outc c to from' amount n n_1 n_8 n_9 h K
theorem L_ref14_Propose_1031r (t : Option Addr) (tn : Nat) (tc : Nat) (least : Int) (now : Option Addr) (nown : Nat) (nowc : Nat) (out : Option Addr) (outn : Nat) (outc : Nat) (c : Int) (to : Int) (from' : Int) (amount : Int) (h : Heap) (K : Value → Heap → Prop) (k : L_ref14_Propose_1031T t tn tc least now nown nowc out outn outc c to from' amount h K) : L_ref14_Propose_1031 t tn tc least now nown nowc out outn outc c to from' amount h K :=
 CutAt.of_ev (cs := [26, 29, 31, 33, 36, 37, 38, 39, 40]) Try.func17 mixed (fun junk => by kernel_rfl) k
def L_ref14_Propose_1033T (t : Option Addr) (tn : Nat) (tc : Nat) (least : Int) (now : Option Addr) (nown : Nat) (nowc : Nat) (out : Option Addr) (outn : Nat) (outc : Nat) (c : Int) (to : Int) (from' : Int) (amount : Int) (base : Int) (g : Int) (less : Int) (h' : Int) (h : Heap) (K : Value → Heap → Prop) : Prop :=
 0 ≤ from' ∧
 from' < (↑nown : Int) ∧
 withAddr now fun (b o : Nat) =>
 ∃ (a : Option Addr),
 ∃ (n : Nat),
 ∃ (m : Nat),
 Heap.cell h b (o + Int.toNat from') = some (slice a n m) ∧
 (0 : Int) ≤ 0 ∧
 0 < (↑n : Int) ∧
 withAddr a fun (b o : Nat) =>
 ∃ (n : Int),
 Heap.cell h b o = some (int IntKind.i64 n) ∧
 CallA Try.prog fn_ref01_Of [int IntKind.i64 n] h fun (v : Value) (h : Heap) =>
 ∃ (b : Bool),
 ∃ (a : Option Addr),
 ∃ (n : Nat),
 ∃ (m : Nat),
 v = agg #[Value.bool b, slice a n m] ∧
 CallA Try.prog fn_ref01_Of [int IntKind.i64 base] h fun (v : Value) (h : Heap) =>
 ∃ (b_1 : Bool),
 ∃ (a_1 : Option Addr),
 ∃ (n_1 : Nat),
 ∃ (m_1 : Nat),
 v = agg #[Value.bool b_1, slice a_1 n_1 m_1] ∧
 CallA Try.prog fn_ref01_Add [agg #[Value.bool b, slice a n m], agg #[Value.bool b_1, slice a_1 n_1 m_1]] h fun (v : Value) (h : Heap) =>
 ∃ (b : Bool),
 ∃ (a : Option Addr),
 ∃ (n : Nat),
 ∃ (m : Nat),
 v = agg #[Value.bool b, slice a n m] ∧
 CallA Try.prog fn_ref01_Fit [agg #[Value.bool b, slice a n m]] h fun (v : Value) (h : Heap) =>
 ∃ (n : Int),
 ∃ (n_2 : Int),
 v = tuple #[int IntKind.i64 n, int IntKind.i64 n_2] ∧
 Br (g != 0) (Ret h K (tuple #[slice none 0 0, slice none 0 0, int IntKind.i64 3]))
 (Br (h' != 0) (Ret h K (tuple #[slice none 0 0, slice none 0 0, int IntKind.i64 3]))
 (Br (n_2 != 0) (Ret h K (tuple #[slice none 0 0, slice none 0 0, int IntKind.i64 3]))
 (L_ref14_Propose_1036 t tn tc least now nown nowc out outn outc c to from' amount base less n h K)))
theorem L_ref14_Propose_1033r (t : Option Addr) (tn : Nat) (tc : Nat) (least : Int) (now : Option Addr) (nown : Nat) (nowc : Nat) (out : Option Addr) (outn : Nat) (outc : Nat) (c : Int) (to : Int) (from' : Int) (amount : Int) (base : Int) (g : Int) (less : Int) (h' : Int) (h : Heap) (K : Value → Heap → Prop) (k : L_ref14_Propose_1033T t tn tc least now nown nowc out outn outc c to from' amount base g less h' h K) : L_ref14_Propose_1033 t tn tc least now nown nowc out outn outc c to from' amount base g less h' h K :=
 CutAt.of_ev (cs := [26, 29, 31, 33, 36, 37, 38, 39, 40]) Try.func17 mixed (fun junk => by kernel_rfl) k
def L_ref14_Propose_1036T (t : Option Addr) (tn : Nat) (tc : Nat) (least : Int) (now : Option Addr) (nown : Nat) (nowc : Nat) (out : Option Addr) (outn : Nat) (outc : Nat) (c : Int) (to : Int) (from' : Int) (amount : Int) (base : Int) (less : Int) (more : Int) (h : Heap) (K : Value → Heap → Prop) : Prop :=
 0 ≤ to ∧
 to < (↑nown : Int) ∧
 withAddr now fun (b o : Nat) =>
 ∃ (a : Option Addr),
 ∃ (n : Nat),
 ∃ (m : Nat),
 Heap.cell h b (o + Int.toNat to) = some (slice a n m) ∧
 (0 : Int) ≤ 0 ∧ 0 < (↑n : Int) ∧ withAddr a fun (b o : Nat) => Heap.canSt h b o 1 ∧ L_ref14_Propose_1037 t tn tc least now nown nowc out outn outc c to from' amount base more (Heap.setN h b o [int IntKind.i64 less]) K
theorem L_ref14_Propose_1036r (t : Option Addr) (tn : Nat) (tc : Nat) (least : Int) (now : Option Addr) (nown : Nat) (nowc : Nat) (out : Option Addr) (outn : Nat) (outc : Nat) (c : Int) (to : Int) (from' : Int) (amount : Int) (base : Int) (less : Int) (more : Int) (h : Heap) (K : Value → Heap → Prop) (k : L_ref14_Propose_1036T t tn tc least now nown nowc out outn outc c to from' amount base less more h K) : L_ref14_Propose_1036 t tn tc least now nown nowc out outn outc c to from' amount base less more h K :=
 CutAt.of_ev (cs := [26, 29, 31, 33, 36, 37, 38, 39, 40]) Try.func17 mixed (fun junk => by kernel_rfl) k
def L_ref14_Propose_1037T (t : Option Addr) (tn : Nat) (tc : Nat) (least : Int) (now : Option Addr) (nown : Nat) (nowc : Nat) (out : Option Addr) (outn : Nat) (outc : Nat) (c : Int) (to : Int) (from' : Int) (amount : Int) (base : Int) (more : Int) (h : Heap) (K : Value → Heap → Prop) : Prop :=
 0 ≤ from' ∧
 from' < (↑nown : Int) ∧
 withAddr now fun (b o : Nat) =>
 ∃ (a : Option Addr),
 ∃ (n : Nat),
 ∃ (m : Nat),
 Heap.cell h b (o + Int.toNat from') = some (slice a n m) ∧
 (0 : Int) ≤ 0 ∧ 0 < (↑n : Int) ∧ withAddr a fun (b o : Nat) => Heap.canSt h b o 1 ∧ L_ref14_Propose_1038 t tn tc least now nown nowc out outn outc c to from' amount base (Heap.setN h b o [int IntKind.i64 more]) K
theorem L_ref14_Propose_1037r (t : Option Addr) (tn : Nat) (tc : Nat) (least : Int) (now : Option Addr) (nown : Nat) (nowc : Nat) (out : Option Addr) (outn : Nat) (outc : Nat) (c : Int) (to : Int) (from' : Int) (amount : Int) (base : Int) (more : Int) (h : Heap) (K : Value → Heap → Prop) (k : L_ref14_Propose_1037T t tn tc least now nown nowc out outn outc c to from' amount base more h K) : L_ref14_Propose_1037 t tn tc least now nown nowc out outn outc c to from' amount base more h K :=
 CutAt.of_ev (cs := [26, 29, 31, 33, 36, 37, 38, 39, 40]) Try.func17 mixed (fun junk => by kernel_rfl) k
def L_ref14_Propose_1038T (t : Option Addr) (tn : Nat) (tc : Nat) (least : Int) (now : Option Addr) (nown : Nat) (nowc : Nat) (out : Option Addr) (outn : Nat) (outc : Nat) (c : Int) (to : Int) (from' : Int) (amount : Int) (base : Int) (h : Heap) (K : Value → Heap → Prop) : Prop :=
 0 ≤ to ∧
 to < (↑nown : Int) ∧
 withAddr now fun (b o : Nat) =>
 ∃ (a : Option Addr),
 ∃ (n : Nat),
 ∃ (m : Nat),
 Heap.cell h b (o + Int.toNat to) = some (slice a n m) ∧
 0 ≤ to ∧
 to < (↑nown : Int) ∧
 withAddr now fun (b o : Nat) =>
 ∃ (a_1 : Option Addr),
 ∃ (n_1 : Nat),
 ∃ (m : Nat),
 Heap.cell h b (o + Int.toNat to) = some (slice a_1 n_1 m) ∧
 0 ≤ c ∧
 c < (↑n_1 : Int) ∧
 withAddr a_1 fun (b o : Nat) =>
 ∃ (n_2 : Int),
 Heap.cell h b (o + Int.toNat c) = some (int IntKind.i64 n_2) ∧
 0 ≤ c ∧
 c < (↑n : Int) ∧
 withAddr a fun (b o : Nat) =>
 Heap.canSt h b (o + Int.toNat c) 1 ∧
 L_ref14_Propose_1039 t tn tc least now nown nowc out outn outc c to from' amount base (Heap.setN h b (o + Int.toNat c) [int IntKind.i64 (IntKind.wrap IntKind.i64 (n_2 + amount))]) K
theorem L_ref14_Propose_1038r (t : Option Addr) (tn : Nat) (tc : Nat) (least : Int) (now : Option Addr) (nown : Nat) (nowc : Nat) (out : Option Addr) (outn : Nat) (outc : Nat) (c : Int) (to : Int) (from' : Int) (amount : Int) (base : Int) (h : Heap) (K : Value → Heap → Prop) (k : L_ref14_Propose_1038T t tn tc least now nown nowc out outn outc c to from' amount base h K) : L_ref14_Propose_1038 t tn tc least now nown nowc out outn outc c to from' amount base h K :=
 CutAt.of_ev (cs := [26, 29, 31, 33, 36, 37, 38, 39, 40]) Try.func17 mixed (fun junk => by kernel_rfl) k
def L_ref14_Propose_1039T (t : Option Addr) (tn : Nat) (tc : Nat) (least : Int) (now : Option Addr) (nown : Nat) (nowc : Nat) (out : Option Addr) (outn : Nat) (outc : Nat) (c : Int) (to : Int) (from' : Int) (amount : Int) (base : Int) (h : Heap) (K : Value → Heap → Prop) : Prop :=
 0 ≤ from' ∧
 from' < (↑nown : Int) ∧
 withAddr now fun (b o : Nat) =>
 ∃ (a : Option Addr),
 ∃ (n : Nat),
 ∃ (m : Nat),
 Heap.cell h b (o + Int.toNat from') = some (slice a n m) ∧
 0 ≤ from' ∧
 from' < (↑nown : Int) ∧
 withAddr now fun (b o : Nat) =>
 ∃ (a_1 : Option Addr),
 ∃ (n_1 : Nat),
 ∃ (m : Nat),
 Heap.cell h b (o + Int.toNat from') = some (slice a_1 n_1 m) ∧
 0 ≤ c ∧
 c < (↑n_1 : Int) ∧
 withAddr a_1 fun (b o : Nat) =>
 ∃ (n_2 : Int),
 Heap.cell h b (o + Int.toNat c) = some (int IntKind.i64 n_2) ∧
 0 ≤ c ∧
 c < (↑n : Int) ∧
 withAddr a fun (b o : Nat) =>
 Heap.canSt h b (o + Int.toNat c) 1 ∧
 L_ref14_Propose_1040 t tn tc least now nown nowc out outn outc c to from' amount base (Heap.setN h b (o + Int.toNat c) [int IntKind.i64 (IntKind.wrap IntKind.i64 (n_2 - amount))]) K
theorem L_ref14_Propose_1039r (t : Option Addr) (tn : Nat) (tc : Nat) (least : Int) (now : Option Addr) (nown : Nat) (nowc : Nat) (out : Option Addr) (outn : Nat) (outc : Nat) (c : Int) (to : Int) (from' : Int) (amount : Int) (base : Int) (h : Heap) (K : Value → Heap → Prop) (k : L_ref14_Propose_1039T t tn tc least now nown nowc out outn outc c to from' amount base h K) : L_ref14_Propose_1039 t tn tc least now nown nowc out outn outc c to from' amount base h K :=
 CutAt.of_ev (cs := [26, 29, 31, 33, 36, 37, 38, 39, 40]) Try.func17 mixed (fun junk => by kernel_rfl) k
def L_ref14_Propose_1040T (t : Option Addr) (tn : Nat) (tc : Nat) (least : Int) (now : Option Addr) (nown : Nat) (nowc : Nat) (out : Option Addr) (outn : Nat) (outc : Nat) (c : Int) (to : Int) (from' : Int) (amount : Int) (base : Int) (h : Heap) (K : Value → Heap → Prop) : Prop :=
 newB h [int IntKind.i64 from', int IntKind.i64 to, int IntKind.i64 c, int IntKind.i64 amount, int IntKind.i64 base] 123 fun (r : Nat) (h : Heap) =>
 AppA [int IntKind.i64 0, int IntKind.i64 0, int IntKind.i64 0, int IntKind.i64 0, int IntKind.i64 0] 123 h out outn outc 1 (some { block := r, off := 0 }) fun (ap : Option Addr) (cp : Nat) (h : Heap) =>
 L_ref14_Propose_3 t tn tc least now nown nowc ap (outn + 1) cp c to (IntKind.wrap IntKind.i64 (from' + 1)) h K
theorem L_ref14_Propose_1040r (t : Option Addr) (tn : Nat) (tc : Nat) (least : Int) (now : Option Addr) (nown : Nat) (nowc : Nat) (out : Option Addr) (outn : Nat) (outc : Nat) (c : Int) (to : Int) (from' : Int) (amount : Int) (base : Int) (h : Heap) (K : Value → Heap → Prop) (k : L_ref14_Propose_1040T t tn tc least now nown nowc out outn outc c to from' amount base h K) : L_ref14_Propose_1040 t tn tc least now nown nowc out outn outc c to from' amount base h K :=
 CutAt.of_ev (cs := [26, 29, 31, 33, 36, 37, 38, 39, 40]) Try.func17 mixed (fun junk => by kernel_rfl) k
def F_ref14_ProposeT (t : Option Addr) (tn : Nat) (tc : Nat) (net : Option Addr) (netn : Nat) (netc : Nat) (least : Int) (h : Heap) (K : Value → Heap → Prop) : Prop :=
 CallA Try.prog fn_ref03_Check [slice t tn tc] h fun (v : Value) (h : Heap) =>
 ∃ (n : Int),
 v = int IntKind.i64 n ∧
 Br (n != 0) (Ret h K (tuple #[slice none 0 0, slice none 0 0, int IntKind.i64 n]))
 (Br (decide ((↑netn : Int) > 16)) (Ret h K (tuple #[slice none 0 0, slice none 0 0, int IntKind.i64 4]))
 (newB h [] 36 fun (r : Nat) (h : Heap) => L_ref14_Propose_0 t tn tc net netn netc least (some { block := r, off := 0 }) 0 0 0 h K))
theorem F_ref14_Propose (t : Option Addr) (tn : Nat) (tc : Nat) (net : Option Addr) (netn : Nat) (netc : Nat) (least : Int) (h : Heap) (K : Value → Heap → Prop) (k : F_ref14_ProposeT t tn tc net netn netc least h K) : CallA Try.prog fn_ref14_Propose [slice t tn tc, slice net netn netc, int IntKind.i64 least] h K :=
 CallA.of_ev (cs := [26, 29, 31, 33, 36, 37, 38, 39, 40]) Try.func17 (by kernel_rfl) (fun _ _ => Try.call17 _ _) mixed (by kernel_rfl) (by kernel_rfl) k
end Go.Proofs.Ytkcogdmddhkldaa
