import Derived.Test.YtghdadniddoboaaM03
namespace Go.Proofs.Ytghdadniddoboaa
open Go Go.Sy Go.Value
set_option linter.unusedVariables false
set_option maxRecDepth 100000
def L_law09_WorthTells_0 (t : Option Addr) (tn : Nat) (tc : Nat) (more : Option Addr) (moren : Nat) (morec : Nat) (many : Int) (l : Option Addr) (r : Option Addr) (w : Option Addr) (seen : Option Addr) (t107 : Option Addr) (t107n : Nat) (t107c : Nat) (t108 : Int) (t109 : Int) (h : Heap) (K : Value → Heap → Prop) : Prop :=
 LoopAt Try.prog Try.f7 7 (loopK Try.f7 0) (sp 393 [(0, slice t tn tc), (3, slice more moren morec), (9, int IntKind.i64 many), (10, pointer l), (12, pointer r), (14, pointer w), (16, pointer seen), (107, slice t107 t107n t107c), (108, int IntKind.i64 t108),
 (109, int IntKind.i64 t109)]) h K
def L_law09_WorthTells_1022 (t : Option Addr) (tn : Nat) (tc : Nat) (more : Option Addr) (moren : Nat) (morec : Nat) (many : Int) (l : Option Addr) (r : Option Addr) (w : Option Addr) (seen : Option Addr) (x : Nat) (g : Int) (h' : Int) (t107 : Option Addr) (t107n : Nat) (t107c : Nat) (t108 : Int) (t109 : Int) (t119 : Int) (h : Heap) (K : Value → Heap → Prop) : Prop :=
 CutAt Try.prog Try.f7 7 (cutK Try.f7 22) (sp 393 [(0, slice t tn tc), (3, slice more moren morec), (9, int IntKind.i64 many), (10, pointer l), (12, pointer r), (14, pointer w), (16, pointer seen), (18, pointer (some { block := x, off := 0 })), (19, int IntKind.i64 g),
 (20, int IntKind.i64 h'), (107, slice t107 t107n t107c), (108, int IntKind.i64 t108), (109, int IntKind.i64 t109), (119, int IntKind.i64 t119)]) h K
def L_law09_WorthTells_1026 (t : Option Addr) (tn : Nat) (tc : Nat) (more : Option Addr) (moren : Nat) (morec : Nat) (many : Int) (l : Option Addr) (r : Option Addr) (w : Option Addr) (seen : Option Addr) (x : Nat) (g : Int) (h' : Int) (t107 : Option Addr) (t107n : Nat) (t107c : Nat) (t108 : Int) (t109 : Int) (h : Heap) (K : Value → Heap → Prop) : Prop :=
 CutAt Try.prog Try.f7 7 (cutK Try.f7 26) (sp 393 [(0, slice t tn tc), (3, slice more moren morec), (9, int IntKind.i64 many), (10, pointer l), (12, pointer r), (14, pointer w), (16, pointer seen), (18, pointer (some { block := x, off := 0 })), (19, int IntKind.i64 g),
 (20, int IntKind.i64 h'), (107, slice t107 t107n t107c), (108, int IntKind.i64 t108), (109, int IntKind.i64 t109)]) h K
def L_law09_WorthTells_1046 (t : Option Addr) (tn : Nat) (tc : Nat) (more : Option Addr) (moren : Nat) (morec : Nat) (many : Int) (l : Option Addr) (r : Option Addr) (w : Option Addr) (seen : Option Addr) (g : Int) (h' : Int) (t107 : Option Addr) (t107n : Nat) (t107c : Nat) (t108 : Int) (t109 : Int) (h : Heap) (K : Value → Heap → Prop) : Prop :=
 CutAt Try.prog Try.f7 7 (cutK Try.f7 46) (sp 393 [(0, slice t tn tc), (3, slice more moren morec), (9, int IntKind.i64 many), (10, pointer l), (12, pointer r), (14, pointer w), (16, pointer seen), (19, int IntKind.i64 g), (20, int IntKind.i64 h'),
 (107, slice t107 t107n t107c), (108, int IntKind.i64 t108), (109, int IntKind.i64 t109)]) h K
def L_law09_WorthTells_1027 (t : Option Addr) (tn : Nat) (tc : Nat) (more : Option Addr) (moren : Nat) (morec : Nat) (many : Int) (l : Option Addr) (r : Option Addr) (w : Option Addr) (seen : Option Addr) (x : Nat) (g : Int) (h' : Int) (t107 : Option Addr) (t107n : Nat) (t107c : Nat) (t108 : Int) (t109 : Int) (t119 : Int) (h : Heap) (K : Value → Heap → Prop) : Prop :=
 CutAt Try.prog Try.f7 7 (cutK Try.f7 27) (sp 393 [(0, slice t tn tc), (3, slice more moren morec), (9, int IntKind.i64 many), (10, pointer l), (12, pointer r), (14, pointer w), (16, pointer seen), (18, pointer (some { block := x, off := 0 })), (19, int IntKind.i64 g),
 (20, int IntKind.i64 h'), (107, slice t107 t107n t107c), (108, int IntKind.i64 t108), (109, int IntKind.i64 t109), (119, int IntKind.i64 t119)]) h K
def L_law09_WorthTells_1 (t : Option Addr) (tn : Nat) (tc : Nat) (more : Option Addr) (moren : Nat) (morec : Nat) (many : Int) (l : Option Addr) (r : Option Addr) (w : Option Addr) (seen : Option Addr) (m : Int) (t107 : Option Addr) (t107n : Nat) (t107c : Nat) (t108 : Int) (t109 : Int) (h : Heap) (K : Value → Heap → Prop) : Prop :=
 LoopAt Try.prog Try.f7 7 (loopK Try.f7 1) (sp 393 [(0, slice t tn tc), (3, slice more moren morec), (9, int IntKind.i64 many), (10, pointer l), (12, pointer r), (14, pointer w), (16, pointer seen), (27, int IntKind.i64 m), (107, slice t107 t107n t107c),
 (108, int IntKind.i64 t108), (109, int IntKind.i64 t109)]) h K
def L_law09_WorthTells_1034 (t : Option Addr) (tn : Nat) (tc : Nat) (more : Option Addr) (moren : Nat) (morec : Nat) (many : Int) (l : Option Addr) (r : Option Addr) (w : Option Addr) (seen : Option Addr) (x : Nat) (g : Int) (cut : Int) (t107 : Option Addr) (t107n : Nat) (t107c : Nat) (t108 : Int) (t109 : Int) (h : Heap) (K : Value → Heap → Prop) : Prop :=
 CutAt Try.prog Try.f7 7 (cutK Try.f7 34) (sp 393 [(0, slice t tn tc), (3, slice more moren morec), (9, int IntKind.i64 many), (10, pointer l), (12, pointer r), (14, pointer w), (16, pointer seen), (18, pointer (some { block := x, off := 0 })), (19, int IntKind.i64 g),
 (21, int IntKind.i64 cut), (107, slice t107 t107n t107c), (108, int IntKind.i64 t108), (109, int IntKind.i64 t109)]) h K
def L_law09_WorthTells_1038 (t : Option Addr) (tn : Nat) (tc : Nat) (more : Option Addr) (moren : Nat) (morec : Nat) (many : Int) (l : Option Addr) (r : Option Addr) (w : Option Addr) (seen : Option Addr) (x : Nat) (g : Int) (h' : Int) (t107 : Option Addr) (t107n : Nat) (t107c : Nat) (t108 : Int) (t109 : Int) (t119 : Int) (h : Heap) (K : Value → Heap → Prop) : Prop :=
 CutAt Try.prog Try.f7 7 (cutK Try.f7 38) (sp 393 [(0, slice t tn tc), (3, slice more moren morec), (9, int IntKind.i64 many), (10, pointer l), (12, pointer r), (14, pointer w), (16, pointer seen), (18, pointer (some { block := x, off := 0 })), (19, int IntKind.i64 g),
 (20, int IntKind.i64 h'), (107, slice t107 t107n t107c), (108, int IntKind.i64 t108), (109, int IntKind.i64 t109), (119, int IntKind.i64 t119)]) h K
def L_law09_WorthTells_1051 (t : Option Addr) (tn : Nat) (tc : Nat) (more : Option Addr) (moren : Nat) (morec : Nat) (many : Int) (l : Option Addr) (r : Option Addr) (w : Option Addr) (seen : Option Addr) (m : Int) (t107 : Option Addr) (t107n : Nat) (t107c : Nat) (t108 : Int) (t109 : Int) (h : Heap) (K : Value → Heap → Prop) : Prop :=
 CutAt Try.prog Try.f7 7 (cutK Try.f7 51) (sp 393 [(0, slice t tn tc), (3, slice more moren morec), (9, int IntKind.i64 many), (10, pointer l), (12, pointer r), (14, pointer w), (16, pointer seen), (27, int IntKind.i64 m), (107, slice t107 t107n t107c),
 (108, int IntKind.i64 t108), (109, int IntKind.i64 t109)]) h K
def L_law09_WorthTells_1042 (t : Option Addr) (tn : Nat) (tc : Nat) (more : Option Addr) (moren : Nat) (morec : Nat) (many : Int) (l : Option Addr) (r : Option Addr) (w : Option Addr) (seen : Option Addr) (x : Nat) (g : Int) (rate : Int) (t107 : Option Addr) (t107n : Nat) (t107c : Nat) (t108 : Int) (t109 : Int) (h : Heap) (K : Value → Heap → Prop) : Prop :=
 CutAt Try.prog Try.f7 7 (cutK Try.f7 42) (sp 393 [(0, slice t tn tc), (3, slice more moren morec), (9, int IntKind.i64 many), (10, pointer l), (12, pointer r), (14, pointer w), (16, pointer seen), (18, pointer (some { block := x, off := 0 })), (19, int IntKind.i64 g),
 (24, int IntKind.i64 rate), (107, slice t107 t107n t107c), (108, int IntKind.i64 t108), (109, int IntKind.i64 t109)]) h K
def L_law09_WorthTells_1021 (t : Option Addr) (tn : Nat) (tc : Nat) (more : Option Addr) (moren : Nat) (morec : Nat) (many : Int) (l : Option Addr) (r : Option Addr) (w : Option Addr) (seen : Option Addr) (x : Nat) (g : Int) (h' : Int) (t107 : Option Addr) (t107n : Nat) (t107c : Nat) (t108 : Int) (t109 : Int) (h : Heap) (K : Value → Heap → Prop) : Prop :=
 CutAt Try.prog Try.f7 7 (cutK Try.f7 21) (sp 393 [(0, slice t tn tc), (3, slice more moren morec), (9, int IntKind.i64 many), (10, pointer l), (12, pointer r), (14, pointer w), (16, pointer seen), (18, pointer (some { block := x, off := 0 })), (19, int IntKind.i64 g),
 (20, int IntKind.i64 h'), (107, slice t107 t107n t107c), (108, int IntKind.i64 t108), (109, int IntKind.i64 t109)]) h K
def L_law09_WorthTells_0T (t : Option Addr) (tn : Nat) (tc : Nat) (more : Option Addr) (moren : Nat) (morec : Nat) (many : Int) (l : Option Addr) (r : Option Addr) (w : Option Addr) (seen : Option Addr) (t107 : Option Addr) (t107n : Nat) (t107c : Nat) (t108 : Int) (t109 : Int) (h : Heap) (K : Value → Heap → Prop) : Prop :=
 Br (decide (t109 < t108))
 (0 ≤ t109 ∧
 t109 < (↑t107n : Int) ∧
 withAddr t107 fun (b o : Nat) =>
 ∃ (n : Int),
 Heap.cell h b (o + Int.toNat t109 * 5) = some (int IntKind.i64 n) ∧
 ∃ (n_1 : Int),
 Heap.cell h b (o + Int.toNat t109 * 5 + 1) = some (int IntKind.i64 n_1) ∧
 ∃ (n_2 : Int),
 Heap.cell h b (o + Int.toNat t109 * 5 + 2) = some (int IntKind.i64 n_2) ∧
 ∃ (n_3 : Int),
 Heap.cell h b (o + Int.toNat t109 * 5 + 3) = some (int IntKind.i64 n_3) ∧
 ∃ (a : Option Addr),
 ∃ (n_4 : Nat),
 ∃ (m : Nat),
 Heap.cell h b (o + Int.toNat t109 * 5 + 4) = some (slice a n_4 m) ∧
 newB h [int IntKind.i64 0, int IntKind.i64 0, int IntKind.i64 0, int IntKind.i64 0, slice none 0 0] 53 fun (r_1 : Nat) (h : Heap) =>
 Heap.canSt h r_1 0 5 ∧
 ∃ (n_5 : Int),
 Heap.cell (Heap.setN h r_1 0 [int IntKind.i64 n, int IntKind.i64 n_1, int IntKind.i64 n_2, int IntKind.i64 n_3, slice a n_4 m]) r_1 0 = some (int IntKind.i64 n_5) ∧
 ∃ (n_6 : Int),
 Heap.cell (Heap.setN h r_1 0 [int IntKind.i64 n, int IntKind.i64 n_1, int IntKind.i64 n_2, int IntKind.i64 n_3, slice a n_4 m]) r_1 1 = some (int IntKind.i64 n_6) ∧
 ∃ (n_7 : Int),
 Heap.cell (Heap.setN h r_1 0 [int IntKind.i64 n, int IntKind.i64 n_1, int IntKind.i64 n_2, int IntKind.i64 n_3, slice a n_4 m]) r_1 2 = some (int IntKind.i64 n_7) ∧
 ∃ (n_8 : Int),
 Heap.cell (Heap.setN h r_1 0 [int IntKind.i64 n, int IntKind.i64 n_1, int IntKind.i64 n_2, int IntKind.i64 n_3, slice a n_4 m]) r_1 3 = some (int IntKind.i64 n_8) ∧
 ∃ (a_1 : Option Addr),
 ∃ (n_9 : Nat),
 ∃ (m_1 : Nat),
 Heap.cell (Heap.setN h r_1 0 [int IntKind.i64 n, int IntKind.i64 n_1, int IntKind.i64 n_2, int IntKind.i64 n_3, slice a n_4 m]) r_1 4 = some (slice a_1 n_9 m_1) ∧
 CallA Try.prog 31
 [pointer l, pointer w, int IntKind.i64 many, agg #[int IntKind.i64 n_5, int IntKind.i64 n_6, int IntKind.i64 n_7, int IntKind.i64 n_8, slice a_1 n_9 m_1]]
 (Heap.setN h r_1 0 [int IntKind.i64 n, int IntKind.i64 n_1, int IntKind.i64 n_2, int IntKind.i64 n_3, slice a n_4 m]) fun (v : Value) (h : Heap) =>
 ∃ (n : Int),
 v = int IntKind.i64 n ∧
 ∃ (n_10 : Int),
 Heap.cell h r_1 0 = some (int IntKind.i64 n_10) ∧ L_law09_WorthTells_1022 t tn tc more moren morec many l r w seen r_1 n 0 t107 t107n t107c t108 t109 n_10 h K)
 (Ret h K (Value.bool true))
theorem L_law09_WorthTells_0r (t : Option Addr) (tn : Nat) (tc : Nat) (more : Option Addr) (moren : Nat) (morec : Nat) (many : Int) (l : Option Addr) (r : Option Addr) (w : Option Addr) (seen : Option Addr) (t107 : Option Addr) (t107n : Nat) (t107c : Nat) (t108 : Int) (t109 : Int) (h : Heap) (K : Value → Heap → Prop) (k : L_law09_WorthTells_0T t tn tc more moren morec many l r w seen t107 t107n t107c t108 t109 h K) : L_law09_WorthTells_0 t tn tc more moren morec many l r w seen t107 t107n t107c t108 t109 h K :=
 LoopAt.of_ev (cs := [21, 22, 26, 27, 34, 38, 42, 46, 51]) Try.func7 mixed (fun junk => by kernel_rfl) k
def L_law09_WorthTells_1022T (t : Option Addr) (tn : Nat) (tc : Nat) (more : Option Addr) (moren : Nat) (morec : Nat) (many : Int) (l : Option Addr) (r : Option Addr) (w : Option Addr) (seen : Option Addr) (x : Nat) (g : Int) (h' : Int) (t107 : Option Addr) (t107n : Nat) (t107c : Nat) (t108 : Int) (t109 : Int) (t119 : Int) (h : Heap) (K : Value → Heap → Prop) : Prop :=
 Br (t119 == 0)
 (Br (t119 == 0)
 (∃ (n : Int),
 Heap.cell h x 1 = some (int IntKind.i64 n) ∧
 ∃ (n_1 : Int),
 Heap.cell h x 2 = some (int IntKind.i64 n_1) ∧
 ∃ (n_2 : Int),
 Heap.cell h x 3 = some (int IntKind.i64 n_2) ∧
 CallA Try.prog fn_pref08_Ledger_In [pointer r, int IntKind.i64 n, int IntKind.i64 n_1, int IntKind.i64 n_2] h fun (v : Value) (h : Heap) =>
 ∃ (n : Int),
 v = int IntKind.i64 n ∧
 ∃ (n_3 : Int),
 Heap.cell h x 0 = some (int IntKind.i64 n_3) ∧
 Br (n_3 == 0)
 (∃ (n_4 : Int),
 Heap.cell h x 1 = some (int IntKind.i64 n_4) ∧
 Br (decide (n_4 ≥ 0))
 (∃ (n_5 : Int),
 Heap.cell h x 1 = some (int IntKind.i64 n_5) ∧
 Br (decide (n_5 < many)) (L_law09_WorthTells_1026 t tn tc more moren morec many l r w seen x g n t107 t107n t107c t108 t109 h K)
 (L_law09_WorthTells_1046 t tn tc more moren morec many l r w seen g n t107 t107n t107c t108 t109 h K))
 (L_law09_WorthTells_1046 t tn tc more moren morec many l r w seen g n t107 t107n t107c t108 t109 h K))
 (L_law09_WorthTells_1046 t tn tc more moren morec many l r w seen g n t107 t107n t107c t108 t109 h K))
 (L_law09_WorthTells_1027 t tn tc more moren morec many l r w seen x g h' t107 t107n t107c t108 t109 t119 h K))
 (Br (t119 == 4)
 (∃ (n : Int),
 Heap.cell h x 1 = some (int IntKind.i64 n) ∧
 ∃ (n_1 : Int),
 Heap.cell h x 2 = some (int IntKind.i64 n_1) ∧
 ∃ (n_2 : Int),
 Heap.cell h x 3 = some (int IntKind.i64 n_2) ∧
 CallA Try.prog fn_pref08_Ledger_In [pointer r, int IntKind.i64 n, int IntKind.i64 n_1, int IntKind.i64 n_2] h fun (v : Value) (h : Heap) =>
 ∃ (n : Int),
 v = int IntKind.i64 n ∧
 ∃ (n_3 : Int),
 Heap.cell h x 0 = some (int IntKind.i64 n_3) ∧
 Br (n_3 == 0)
 (∃ (n_4 : Int),
 Heap.cell h x 1 = some (int IntKind.i64 n_4) ∧
 Br (decide (n_4 ≥ 0))
 (∃ (n_5 : Int),
 Heap.cell h x 1 = some (int IntKind.i64 n_5) ∧
 Br (decide (n_5 < many)) (L_law09_WorthTells_1026 t tn tc more moren morec many l r w seen x g n t107 t107n t107c t108 t109 h K)
 (L_law09_WorthTells_1046 t tn tc more moren morec many l r w seen g n t107 t107n t107c t108 t109 h K))
 (L_law09_WorthTells_1046 t tn tc more moren morec many l r w seen g n t107 t107n t107c t108 t109 h K))
 (L_law09_WorthTells_1046 t tn tc more moren morec many l r w seen g n t107 t107n t107c t108 t109 h K))
 (L_law09_WorthTells_1027 t tn tc more moren morec many l r w seen x g h' t107 t107n t107c t108 t109 t119 h K))
theorem L_law09_WorthTells_1022r (t : Option Addr) (tn : Nat) (tc : Nat) (more : Option Addr) (moren : Nat) (morec : Nat) (many : Int) (l : Option Addr) (r : Option Addr) (w : Option Addr) (seen : Option Addr) (x : Nat) (g : Int) (h' : Int) (t107 : Option Addr) (t107n : Nat) (t107c : Nat) (t108 : Int) (t109 : Int) (t119 : Int) (h : Heap) (K : Value → Heap → Prop) (k : L_law09_WorthTells_1022T t tn tc more moren morec many l r w seen x g h' t107 t107n t107c t108 t109 t119 h K) : L_law09_WorthTells_1022 t tn tc more moren morec many l r w seen x g h' t107 t107n t107c t108 t109 t119 h K :=
 CutAt.of_ev (cs := [21, 22, 26, 27, 34, 38, 42, 46, 51]) Try.func7 mixed (fun junk => by kernel_rfl) k
def L_law09_WorthTells_1026T (t : Option Addr) (tn : Nat) (tc : Nat) (more : Option Addr) (moren : Nat) (morec : Nat) (many : Int) (l : Option Addr) (r : Option Addr) (w : Option Addr) (seen : Option Addr) (x : Nat) (g : Int) (h' : Int) (t107 : Option Addr) (t107n : Nat) (t107c : Nat) (t108 : Int) (t109 : Int) (h : Heap) (K : Value → Heap → Prop) : Prop :=
 withAddr seen fun (b o : Nat) =>
 ∃ (a : Option Addr),
 ∃ (n : Nat),
 ∃ (m : Nat),
 Heap.cell h b o = some (slice a n m) ∧
 ∃ (n_1 : Int),
 Heap.cell h x 1 = some (int IntKind.i64 n_1) ∧
 withAddr r fun (b_1 o : Nat) =>
 ∃ (a_1 : Option Addr),
 ∃ (n_2 : Nat),
 ∃ (m : Nat),
 Heap.cell h b_1 o = some (slice a_1 n_2 m) ∧
 ∃ (n_3 : Int),
 Heap.cell h x 1 = some (int IntKind.i64 n_3) ∧
 0 ≤ n_3 ∧
 n_3 < (↑n_2 : Int) ∧
 withAddr a_1 fun (b_2 o : Nat) =>
 ∃ (a_2 : Option Addr),
 ∃ (n_4 : Nat),
 ∃ (m : Nat),
 Heap.cell h b_2 (o + Int.toNat n_3) = some (slice a_2 n_4 m) ∧
 newB h [] 2 fun (r_1 : Nat) (h : Heap) =>
 AppA [int IntKind.i64 0] 2 h (some { block := r_1, off := 0 }) 0 0 n_4 a_2 fun (ap : Option Addr) (cp : Nat) (h_1 : Heap) =>
 (Heap.le h h_1 ∨ Keeps [b, x] h h_1) ∧
 0 ≤ n_1 ∧
 n_1 < (↑n : Int) ∧
 withAddr a fun (b o : Nat) =>
 Heap.canSt h_1 b (o + Int.toNat n_1) 1 ∧
 L_law09_WorthTells_1046 t tn tc more moren morec many l r w seen g h' t107 t107n t107c t108 t109 (Heap.setN h_1 b (o + Int.toNat n_1) [slice ap (0 + n_4) cp]) K
theorem L_law09_WorthTells_1026r (t : Option Addr) (tn : Nat) (tc : Nat) (more : Option Addr) (moren : Nat) (morec : Nat) (many : Int) (l : Option Addr) (r : Option Addr) (w : Option Addr) (seen : Option Addr) (x : Nat) (g : Int) (h' : Int) (t107 : Option Addr) (t107n : Nat) (t107c : Nat) (t108 : Int) (t109 : Int) (h : Heap) (K : Value → Heap → Prop) (k : L_law09_WorthTells_1026T t tn tc more moren morec many l r w seen x g h' t107 t107n t107c t108 t109 h K) : L_law09_WorthTells_1026 t tn tc more moren morec many l r w seen x g h' t107 t107n t107c t108 t109 h K :=
 CutAt.of_ev (cs := [21, 22, 26, 27, 34, 38, 42, 46, 51]) Try.func7 mixed (fun junk => by kernel_rfl) k
def L_law09_WorthTells_1046T (t : Option Addr) (tn : Nat) (tc : Nat) (more : Option Addr) (moren : Nat) (morec : Nat) (many : Int) (l : Option Addr) (r : Option Addr) (w : Option Addr) (seen : Option Addr) (g : Int) (h' : Int) (t107 : Option Addr) (t107n : Nat) (t107c : Nat) (t108 : Int) (t109 : Int) (h : Heap) (K : Value → Heap → Prop) : Prop :=
 Br (g != h') (Ret h K (Value.bool false))
 (CallA Try.prog fn_pworth_Worths_Table [pointer w] h fun (v : Value) (h : Heap) =>
 ∃ (a : Option Addr),
 ∃ (n : Nat),
 ∃ (m : Nat),
 v = slice a n m ∧
 CallA Try.prog fn_ref03_Same [slice a n m, slice t tn tc] h fun (v : Value) (h : Heap) =>
 ∃ (b : Bool), v = Value.bool b ∧ Br (!b) (Ret h K (Value.bool false)) (L_law09_WorthTells_1 t tn tc more moren morec many l r w seen (-1) t107 t107n t107c t108 t109 h K))
theorem L_law09_WorthTells_1046r (t : Option Addr) (tn : Nat) (tc : Nat) (more : Option Addr) (moren : Nat) (morec : Nat) (many : Int) (l : Option Addr) (r : Option Addr) (w : Option Addr) (seen : Option Addr) (g : Int) (h' : Int) (t107 : Option Addr) (t107n : Nat) (t107c : Nat) (t108 : Int) (t109 : Int) (h : Heap) (K : Value → Heap → Prop) (k : L_law09_WorthTells_1046T t tn tc more moren morec many l r w seen g h' t107 t107n t107c t108 t109 h K) : L_law09_WorthTells_1046 t tn tc more moren morec many l r w seen g h' t107 t107n t107c t108 t109 h K :=
 CutAt.of_ev (cs := [21, 22, 26, 27, 34, 38, 42, 46, 51]) Try.func7 mixed (fun junk => by kernel_rfl) k
def L_law09_WorthTells_1027T (t : Option Addr) (tn : Nat) (tc : Nat) (more : Option Addr) (moren : Nat) (morec : Nat) (many : Int) (l : Option Addr) (r : Option Addr) (w : Option Addr) (seen : Option Addr) (x : Nat) (g : Int) (h' : Int) (t107 : Option Addr) (t107n : Nat) (t107c : Nat) (t108 : Int) (t109 : Int) (t119 : Int) (h : Heap) (K : Value → Heap → Prop) : Prop :=
 Br (t119 == 1)
 (∃ (a : Option Addr),
 ∃ (n : Nat),
 ∃ (m : Nat),
 Heap.cell h x 4 = some (slice a n m) ∧
 CallA Try.prog fn_pref08_Ledger_Post [pointer r, slice a n m] h fun (v : Value) (h : Heap) =>
 ∃ (n : Int),
 v = int IntKind.i64 n ∧
 CallA Try.prog fn_pref08_Ledger_Copy [pointer r] h fun (v : Value) (h : Heap) => ∃ (a : Option Addr), v = pointer a ∧ L_law09_WorthTells_1046 t tn tc more moren morec many l r w a g n t107 t107n t107c t108 t109 h K)
 (Br (t119 == 2)
 (∃ (n : Int),
 Heap.cell h x 2 = some (int IntKind.i64 n) ∧
 Br (decide (n ≥ 0))
 (∃ (n : Int),
 Heap.cell h x 2 = some (int IntKind.i64 n) ∧
 Br (decide (n < (↑tn : Int)))
 (∃ (n : Int),
 Heap.cell h x 2 = some (int IntKind.i64 n) ∧
 0 ≤ n ∧
 n < (↑tn : Int) ∧
 withAddr t fun (b o : Nat) =>
 ∃ (n_1 : Int), Heap.cell h b (o + Int.toNat n * 3 + 2) = some (int IntKind.i64 n_1) ∧ L_law09_WorthTells_1034 t tn tc more moren morec many l r w seen x g n_1 t107 t107n t107c t108 t109 h K)
 (L_law09_WorthTells_1034 t tn tc more moren morec many l r w seen x g 0 t107 t107n t107c t108 t109 h K))
 (L_law09_WorthTells_1034 t tn tc more moren morec many l r w seen x g 0 t107 t107n t107c t108 t109 h K))
 (L_law09_WorthTells_1038 t tn tc more moren morec many l r w seen x g h' t107 t107n t107c t108 t109 t119 h K))
theorem L_law09_WorthTells_1027r (t : Option Addr) (tn : Nat) (tc : Nat) (more : Option Addr) (moren : Nat) (morec : Nat) (many : Int) (l : Option Addr) (r : Option Addr) (w : Option Addr) (seen : Option Addr) (x : Nat) (g : Int) (h' : Int) (t107 : Option Addr) (t107n : Nat) (t107c : Nat) (t108 : Int) (t109 : Int) (t119 : Int) (h : Heap) (K : Value → Heap → Prop) (k : L_law09_WorthTells_1027T t tn tc more moren morec many l r w seen x g h' t107 t107n t107c t108 t109 t119 h K) : L_law09_WorthTells_1027 t tn tc more moren morec many l r w seen x g h' t107 t107n t107c t108 t109 t119 h K :=
 CutAt.of_ev (cs := [21, 22, 26, 27, 34, 38, 42, 46, 51]) Try.func7 mixed (fun junk => by kernel_rfl) k
def L_law09_WorthTells_1T (t : Option Addr) (tn : Nat) (tc : Nat) (more : Option Addr) (moren : Nat) (morec : Nat) (many : Int) (l : Option Addr) (r : Option Addr) (w : Option Addr) (seen : Option Addr) (m : Int) (t107 : Option Addr) (t107n : Nat) (t107c : Nat) (t108 : Int) (t109 : Int) (h : Heap) (K : Value → Heap → Prop) : Prop :=
 Br (decide (m ≤ many)) (L_law09_WorthTells_1051 t tn tc more moren morec many l r w seen m t107 t107n t107c t108 t109 h K) (L_law09_WorthTells_0 t tn tc more moren morec many l r w seen t107 t107n t107c t108 (IntKind.wrap IntKind.i64 (t109 + 1)) h K)
theorem L_law09_WorthTells_1r (t : Option Addr) (tn : Nat) (tc : Nat) (more : Option Addr) (moren : Nat) (morec : Nat) (many : Int) (l : Option Addr) (r : Option Addr) (w : Option Addr) (seen : Option Addr) (m : Int) (t107 : Option Addr) (t107n : Nat) (t107c : Nat) (t108 : Int) (t109 : Int) (h : Heap) (K : Value → Heap → Prop) (k : L_law09_WorthTells_1T t tn tc more moren morec many l r w seen m t107 t107n t107c t108 t109 h K) : L_law09_WorthTells_1 t tn tc more moren morec many l r w seen m t107 t107n t107c t108 t109 h K :=
 LoopAt.of_ev (cs := [21, 22, 26, 27, 34, 38, 42, 46, 51]) Try.func7 mixed (fun junk => by kernel_rfl) k
def L_law09_WorthTells_1034T (t : Option Addr) (tn : Nat) (tc : Nat) (more : Option Addr) (moren : Nat) (morec : Nat) (many : Int) (l : Option Addr) (r : Option Addr) (w : Option Addr) (seen : Option Addr) (x : Nat) (g : Int) (cut : Int) (t107 : Option Addr) (t107n : Nat) (t107c : Nat) (t108 : Int) (t109 : Int) (h : Heap) (K : Value → Heap → Prop) : Prop :=
 ∃ (n : Int),
 Heap.cell h x 2 = some (int IntKind.i64 n) ∧
 ∃ (n_1 : Int),
 Heap.cell h x 3 = some (int IntKind.i64 n_1) ∧
 CallA Try.prog fn_ref03_With [slice t tn tc, int IntKind.i64 n, int IntKind.i64 n_1, int IntKind.i64 cut] h fun (v : Value) (h : Heap) =>
 ∃ (a : Option Addr),
 ∃ (n : Nat),
 ∃ (m : Nat),
 ∃ (n_2 : Int),
 v = tuple #[slice a n m, int IntKind.i64 n_2] ∧
 Br (n_2 == 0) (L_law09_WorthTells_1046 a n m more moren morec many l r w seen g n_2 t107 t107n t107c t108 t109 h K) (L_law09_WorthTells_1046 t tn tc more moren morec many l r w seen g n_2 t107 t107n t107c t108 t109 h K)
theorem L_law09_WorthTells_1034r (t : Option Addr) (tn : Nat) (tc : Nat) (more : Option Addr) (moren : Nat) (morec : Nat) (many : Int) (l : Option Addr) (r : Option Addr) (w : Option Addr) (seen : Option Addr) (x : Nat) (g : Int) (cut : Int) (t107 : Option Addr) (t107n : Nat) (t107c : Nat) (t108 : Int) (t109 : Int) (h : Heap) (K : Value → Heap → Prop) (k : L_law09_WorthTells_1034T t tn tc more moren morec many l r w seen x g cut t107 t107n t107c t108 t109 h K) : L_law09_WorthTells_1034 t tn tc more moren morec many l r w seen x g cut t107 t107n t107c t108 t109 h K :=
 CutAt.of_ev (cs := [21, 22, 26, 27, 34, 38, 42, 46, 51]) Try.func7 mixed (fun junk => by kernel_rfl) k
def L_law09_WorthTells_1038T (t : Option Addr) (tn : Nat) (tc : Nat) (more : Option Addr) (moren : Nat) (morec : Nat) (many : Int) (l : Option Addr) (r : Option Addr) (w : Option Addr) (seen : Option Addr) (x : Nat) (g : Int) (h' : Int) (t107 : Option Addr) (t107n : Nat) (t107c : Nat) (t108 : Int) (t109 : Int) (t119 : Int) (h : Heap) (K : Value → Heap → Prop) : Prop :=
 Br (t119 == 3)
 (∃ (n : Int),
 Heap.cell h x 2 = some (int IntKind.i64 n) ∧
 Br (decide (n ≥ 0))
 (∃ (n : Int),
 Heap.cell h x 2 = some (int IntKind.i64 n) ∧
 Br (decide (n < (↑tn : Int)))
 (∃ (n : Int),
 Heap.cell h x 2 = some (int IntKind.i64 n) ∧
 0 ≤ n ∧
 n < (↑tn : Int) ∧
 withAddr t fun (b o : Nat) =>
 ∃ (n_1 : Int), Heap.cell h b (o + Int.toNat n * 3 + 1) = some (int IntKind.i64 n_1) ∧ L_law09_WorthTells_1042 t tn tc more moren morec many l r w seen x g n_1 t107 t107n t107c t108 t109 h K)
 (L_law09_WorthTells_1042 t tn tc more moren morec many l r w seen x g 0 t107 t107n t107c t108 t109 h K))
 (L_law09_WorthTells_1042 t tn tc more moren morec many l r w seen x g 0 t107 t107n t107c t108 t109 h K))
 (∃ (n : Int),
 Heap.cell h x 1 = some (int IntKind.i64 n) ∧
 Br (decide (n ≥ 0))
 (∃ (n : Int),
 Heap.cell h x 1 = some (int IntKind.i64 n) ∧
 Br (decide (n < many)) (L_law09_WorthTells_1021 t tn tc more moren morec many l r w seen x g h' t107 t107n t107c t108 t109 h K) (L_law09_WorthTells_1046 t tn tc more moren morec many l r w seen g h' t107 t107n t107c t108 t109 h K))
 (L_law09_WorthTells_1046 t tn tc more moren morec many l r w seen g h' t107 t107n t107c t108 t109 h K))
theorem L_law09_WorthTells_1038r (t : Option Addr) (tn : Nat) (tc : Nat) (more : Option Addr) (moren : Nat) (morec : Nat) (many : Int) (l : Option Addr) (r : Option Addr) (w : Option Addr) (seen : Option Addr) (x : Nat) (g : Int) (h' : Int) (t107 : Option Addr) (t107n : Nat) (t107c : Nat) (t108 : Int) (t109 : Int) (t119 : Int) (h : Heap) (K : Value → Heap → Prop) (k : L_law09_WorthTells_1038T t tn tc more moren morec many l r w seen x g h' t107 t107n t107c t108 t109 t119 h K) : L_law09_WorthTells_1038 t tn tc more moren morec many l r w seen x g h' t107 t107n t107c t108 t109 t119 h K :=
 CutAt.of_ev (cs := [21, 22, 26, 27, 34, 38, 42, 46, 51]) Try.func7 mixed (fun junk => by kernel_rfl) k
def L_law09_WorthTells_1051T (t : Option Addr) (tn : Nat) (tc : Nat) (more : Option Addr) (moren : Nat) (morec : Nat) (many : Int) (l : Option Addr) (r : Option Addr) (w : Option Addr) (seen : Option Addr) (m : Int) (t107 : Option Addr) (t107n : Nat) (t107c : Nat) (t108 : Int) (t109 : Int) (h : Heap) (K : Value → Heap → Prop) : Prop :=
 CallA Try.prog fn_pworth_Worths_Net [pointer w, int IntKind.i64 m] h fun (v : Value) (h : Heap) =>
 ∃ (n : Int),
 ∃ (n_1 : Int),
 v = tuple #[int IntKind.i64 n, int IntKind.i64 n_1] ∧
 CallA Try.prog fn_pworth_Worths_Short [pointer w, int IntKind.i64 m] h fun (v : Value) (h : Heap) =>
 ∃ (n_2 : Int),
 ∃ (n_3 : Int),
 v = tuple #[int IntKind.i64 n_2, int IntKind.i64 n_3] ∧
 CallA Try.prog fn_pworth_Worths_If [pointer w, int IntKind.i64 m, slice more moren morec] h fun (v : Value) (h : Heap) =>
 ∃ (n_4 : Int),
 ∃ (n_5 : Int),
 ∃ (n_6 : Int),
 v = tuple #[int IntKind.i64 n_4, int IntKind.i64 n_5, int IntKind.i64 n_6] ∧
 Br (decide (m < 0))
 (Br (n != 0) (Ret h K (Value.bool false))
 (Br (n_1 != 1) (Ret h K (Value.bool false))
 (Br (n_2 != 0) (Ret h K (Value.bool false))
 (Br (n_3 != 1) (Ret h K (Value.bool false))
 (Br (n_6 != 1) (Ret h K (Value.bool false)) (L_law09_WorthTells_1 t tn tc more moren morec many l r w seen (IntKind.wrap IntKind.i64 (m + 1)) t107 t107n t107c t108 t109 h K))))))
 (Br (m == many)
 (Br (n != 0) (Ret h K (Value.bool false))
 (Br (n_1 != 1) (Ret h K (Value.bool false))
 (Br (n_2 != 0) (Ret h K (Value.bool false))
 (Br (n_3 != 1) (Ret h K (Value.bool false))
 (Br (n_6 != 1) (Ret h K (Value.bool false)) (L_law09_WorthTells_1 t tn tc more moren morec many l r w seen (IntKind.wrap IntKind.i64 (m + 1)) t107 t107n t107c t108 t109 h K))))))
 (withAddr seen fun (b o : Nat) =>
 ∃ (a : Option Addr),
 ∃ (n_7 : Nat),
 ∃ (m_1 : Nat),
 Heap.cell h b o = some (slice a n_7 m_1) ∧
 0 ≤ m ∧
 m < (↑n_7 : Int) ∧
 withAddr a fun (b o : Nat) =>
 ∃ (a : Option Addr),
 ∃ (n_8 : Nat),
 ∃ (m_2 : Nat),
 Heap.cell h b (o + Int.toNat m) = some (slice a n_8 m_2) ∧
 CallA Try.prog fn_ref09_Net [slice t tn tc, slice a n_8 m_2] h fun (v : Value) (h : Heap) =>
 ∃ (n_9 : Int),
 ∃ (n_10 : Int),
 v = tuple #[int IntKind.i64 n_9, int IntKind.i64 n_10] ∧
 withAddr seen fun (b o : Nat) =>
 ∃ (a : Option Addr),
 ∃ (n_11 : Nat),
 ∃ (m_3 : Nat),
 Heap.cell h b o = some (slice a n_11 m_3) ∧
 0 ≤ m ∧
 m < (↑n_11 : Int) ∧
 withAddr a fun (b o : Nat) =>
 ∃ (a : Option Addr),
 ∃ (n_12 : Nat),
 ∃ (m_4 : Nat),
 Heap.cell h b (o + Int.toNat m) = some (slice a n_12 m_4) ∧
 CallA Try.prog fn_ref09_Short [slice t tn tc, slice a n_12 m_4] h fun (v : Value) (h : Heap) =>
 ∃ (n_13 : Int),
 ∃ (n_14 : Int),
 v = tuple #[int IntKind.i64 n_13, int IntKind.i64 n_14] ∧
 withAddr seen fun (b o : Nat) =>
 ∃ (a : Option Addr),
 ∃ (n_15 : Nat),
 ∃ (m_5 : Nat),
 Heap.cell h b o = some (slice a n_15 m_5) ∧
 0 ≤ m ∧
 m < (↑n_15 : Int) ∧
 withAddr a fun (b o : Nat) =>
 ∃ (a : Option Addr),
 ∃ (n_16 : Nat),
 ∃ (m_6 : Nat),
 Heap.cell h b (o + Int.toNat m) = some (slice a n_16 m_6) ∧
 CallA Try.prog fn_ref09_If [slice t tn tc, slice a n_16 m_6, int IntKind.i64 m, slice more moren morec]
 h fun (v : Value) (h : Heap) =>
 ∃ (n_17 : Int),
 ∃ (n_18 : Int),
 ∃ (n_19 : Int),
 v = tuple #[int IntKind.i64 n_17, int IntKind.i64 n_18, int IntKind.i64 n_19] ∧
 Br (n != n_9) (Ret h K (Value.bool false))
 (Br (n_1 != n_10) (Ret h K (Value.bool false))
 (Br (n_2 != n_13) (Ret h K (Value.bool false))
 (Br (n_3 != n_14) (Ret h K (Value.bool false))
 (Br (n_4 != n_17) (Ret h K (Value.bool false))
 (Br (n_5 != n_18) (Ret h K (Value.bool false))
 (Br (n_6 != n_19) (Ret h K (Value.bool false))
 (L_law09_WorthTells_1 t tn tc more moren morec many l r w seen
 (IntKind.wrap IntKind.i64 (m + 1)) t107 t107n t107c t108 t109 h K)))))))))
theorem L_law09_WorthTells_1051r (t : Option Addr) (tn : Nat) (tc : Nat) (more : Option Addr) (moren : Nat) (morec : Nat) (many : Int) (l : Option Addr) (r : Option Addr) (w : Option Addr) (seen : Option Addr) (m : Int) (t107 : Option Addr) (t107n : Nat) (t107c : Nat) (t108 : Int) (t109 : Int) (h : Heap) (K : Value → Heap → Prop) (k : L_law09_WorthTells_1051T t tn tc more moren morec many l r w seen m t107 t107n t107c t108 t109 h K) : L_law09_WorthTells_1051 t tn tc more moren morec many l r w seen m t107 t107n t107c t108 t109 h K :=
 CutAt.of_ev (cs := [21, 22, 26, 27, 34, 38, 42, 46, 51]) Try.func7 mixed (fun junk => by kernel_rfl) k
def L_law09_WorthTells_1042T (t : Option Addr) (tn : Nat) (tc : Nat) (more : Option Addr) (moren : Nat) (morec : Nat) (many : Int) (l : Option Addr) (r : Option Addr) (w : Option Addr) (seen : Option Addr) (x : Nat) (g : Int) (rate : Int) (t107 : Option Addr) (t107n : Nat) (t107c : Nat) (t108 : Int) (t109 : Int) (h : Heap) (K : Value → Heap → Prop) : Prop :=
 ∃ (n : Int),
 Heap.cell h x 2 = some (int IntKind.i64 n) ∧
 ∃ (n_1 : Int),
 Heap.cell h x 3 = some (int IntKind.i64 n_1) ∧
 CallA Try.prog fn_ref03_With [slice t tn tc, int IntKind.i64 n, int IntKind.i64 rate, int IntKind.i64 n_1] h fun (v : Value) (h : Heap) =>
 ∃ (a : Option Addr),
 ∃ (n : Nat),
 ∃ (m : Nat),
 ∃ (n_2 : Int),
 v = tuple #[slice a n m, int IntKind.i64 n_2] ∧
 Br (n_2 == 0) (L_law09_WorthTells_1046 a n m more moren morec many l r w seen g n_2 t107 t107n t107c t108 t109 h K) (L_law09_WorthTells_1046 t tn tc more moren morec many l r w seen g n_2 t107 t107n t107c t108 t109 h K)
theorem L_law09_WorthTells_1042r (t : Option Addr) (tn : Nat) (tc : Nat) (more : Option Addr) (moren : Nat) (morec : Nat) (many : Int) (l : Option Addr) (r : Option Addr) (w : Option Addr) (seen : Option Addr) (x : Nat) (g : Int) (rate : Int) (t107 : Option Addr) (t107n : Nat) (t107c : Nat) (t108 : Int) (t109 : Int) (h : Heap) (K : Value → Heap → Prop) (k : L_law09_WorthTells_1042T t tn tc more moren morec many l r w seen x g rate t107 t107n t107c t108 t109 h K) : L_law09_WorthTells_1042 t tn tc more moren morec many l r w seen x g rate t107 t107n t107c t108 t109 h K :=
 CutAt.of_ev (cs := [21, 22, 26, 27, 34, 38, 42, 46, 51]) Try.func7 mixed (fun junk => by kernel_rfl) k
def L_law09_WorthTells_1021T (t : Option Addr) (tn : Nat) (tc : Nat) (more : Option Addr) (moren : Nat) (morec : Nat) (many : Int) (l : Option Addr) (r : Option Addr) (w : Option Addr) (seen : Option Addr) (x : Nat) (g : Int) (h' : Int) (t107 : Option Addr) (t107n : Nat) (t107c : Nat) (t108 : Int) (t109 : Int) (h : Heap) (K : Value → Heap → Prop) : Prop :=
 withAddr seen fun (b o : Nat) =>
 ∃ (a : Option Addr),
 ∃ (n : Nat),
 ∃ (m : Nat),
 Heap.cell h b o = some (slice a n m) ∧
 ∃ (n_1 : Int),
 Heap.cell h x 1 = some (int IntKind.i64 n_1) ∧
 withAddr r fun (b_1 o : Nat) =>
 ∃ (a_1 : Option Addr),
 ∃ (n_2 : Nat),
 ∃ (m : Nat),
 Heap.cell h b_1 o = some (slice a_1 n_2 m) ∧
 ∃ (n_3 : Int),
 Heap.cell h x 1 = some (int IntKind.i64 n_3) ∧
 0 ≤ n_3 ∧
 n_3 < (↑n_2 : Int) ∧
 withAddr a_1 fun (b_2 o : Nat) =>
 ∃ (a_2 : Option Addr),
 ∃ (n_4 : Nat),
 ∃ (m : Nat),
 Heap.cell h b_2 (o + Int.toNat n_3) = some (slice a_2 n_4 m) ∧
 newB h [] 2 fun (r_1 : Nat) (h : Heap) =>
 AppA [int IntKind.i64 0] 2 h (some { block := r_1, off := 0 }) 0 0 n_4 a_2 fun (ap : Option Addr) (cp : Nat) (h_1 : Heap) =>
 (Heap.le h h_1 ∨ Keeps [b, x] h h_1) ∧
 0 ≤ n_1 ∧
 n_1 < (↑n : Int) ∧
 withAddr a fun (b o : Nat) =>
 Heap.canSt h_1 b (o + Int.toNat n_1) 1 ∧
 L_law09_WorthTells_1046 t tn tc more moren morec many l r w seen g h' t107 t107n t107c t108 t109 (Heap.setN h_1 b (o + Int.toNat n_1) [slice ap (0 + n_4) cp]) K
theorem L_law09_WorthTells_1021r (t : Option Addr) (tn : Nat) (tc : Nat) (more : Option Addr) (moren : Nat) (morec : Nat) (many : Int) (l : Option Addr) (r : Option Addr) (w : Option Addr) (seen : Option Addr) (x : Nat) (g : Int) (h' : Int) (t107 : Option Addr) (t107n : Nat) (t107c : Nat) (t108 : Int) (t109 : Int) (h : Heap) (K : Value → Heap → Prop) (k : L_law09_WorthTells_1021T t tn tc more moren morec many l r w seen x g h' t107 t107n t107c t108 t109 h K) : L_law09_WorthTells_1021 t tn tc more moren morec many l r w seen x g h' t107 t107n t107c t108 t109 h K :=
 CutAt.of_ev (cs := [21, 22, 26, 27, 34, 38, 42, 46, 51]) Try.func7 mixed (fun junk => by kernel_rfl) k
def F_law09_WorthTellsT (t : Option Addr) (tn : Nat) (tc : Nat) (members : Int) (ops : Option Addr) (opsn : Nat) (opsc : Nat) (more : Option Addr) (moren : Nat) (morec : Nat) (h : Heap) (K : Value → Heap → Prop) : Prop :=
 CallA Try.prog fn_law09_awake [] h fun (v : Value) (h : Heap) =>
 ∃ (b : Bool),
 v = Value.bool b ∧
 Br (!b) (Ret h K (Value.bool false))
 (CallA Try.prog fn_law09_large [slice ops opsn opsc] h fun (v : Value) (h : Heap) =>
 ∃ (b : Bool),
 v = Value.bool b ∧
 Br b (Ret h K (Value.bool true))
 (Br (decide ((↑tn : Int) > 20)) (Ret h K (Value.bool true))
 (Br (decide ((↑moren : Int) > 20)) (Ret h K (Value.bool true))
 (CallA Try.prog 26
 [int IntKind.i64 (IntKind.wrap IntKind.i64 (IntKind.wrap IntKind.i64 (Int.tmod members 16) + 1)),
 int IntKind.i64 (if 1 > if 8 < (↑tn : Int) then 8 else (↑tn : Int) then 1 else if 8 < (↑tn : Int) then 8 else (↑tn : Int))]
 h fun (v : Value) (h : Heap) =>
 ∃ (a : Option Addr),
 ∃ (n : Int),
 v = tuple #[pointer a, int IntKind.i64 n] ∧
 CallA Try.prog 27
 [int IntKind.i64 (IntKind.wrap IntKind.i64 (IntKind.wrap IntKind.i64 (Int.tmod members 16) + 1)),
 int IntKind.i64 (if 1 > if 8 < (↑tn : Int) then 8 else (↑tn : Int) then 1 else if 8 < (↑tn : Int) then 8 else (↑tn : Int))]
 h fun (v : Value) (h : Heap) =>
 ∃ (a_1 : Option Addr),
 ∃ (n : Int),
 v = tuple #[pointer a_1, int IntKind.i64 n] ∧
 CallA Try.prog fn_worth_New [slice t tn tc, pointer a] h fun (v : Value) (h : Heap) =>
 ∃ (a_2 : Option Addr),
 ∃ (n : Int),
 v = tuple #[pointer a_2, int IntKind.i64 n] ∧
 CallA Try.prog fn_ref03_Check [slice t tn tc] h fun (v : Value) (h : Heap) =>
 ∃ (n_1 : Int),
 v = int IntKind.i64 n_1 ∧
 Br (n_1 != 0)
 (Br (Option.isNone a_2)
 (CallA Try.prog fn_ref03_Check [slice t tn tc] h fun (v : Value) (h : Heap) => ∃ (n_2 : Int), v = int IntKind.i64 n_2 ∧ Ret h K (Value.bool (n == n_2)))
 (Ret h K (Value.bool false)))
 (Br (Option.isNone a_2) (Ret h K (Value.bool false))
 (Br (n != 0) (Ret h K (Value.bool false))
 (Br (Option.isNone a) (Ret h K (Value.bool false))
 (CallA Try.prog fn_pref08_Ledger_Copy [pointer a_1] h fun (v : Value) (h : Heap) =>
 ∃ (a_3 : Option Addr),
 v = pointer a_3 ∧
 L_law09_WorthTells_0 t tn tc more moren morec (IntKind.wrap IntKind.i64 (IntKind.wrap IntKind.i64 (Int.tmod members 16) + 1)) a a_1 a_2 a_3 ops opsn opsc (↑opsn : Int) 0 h
 K))))))))
theorem F_law09_WorthTells (t : Option Addr) (tn : Nat) (tc : Nat) (members : Int) (ops : Option Addr) (opsn : Nat) (opsc : Nat) (more : Option Addr) (moren : Nat) (morec : Nat) (h : Heap) (K : Value → Heap → Prop) (k : F_law09_WorthTellsT t tn tc members ops opsn opsc more moren morec h K) : CallA Try.prog fn_law09_WorthTells [slice t tn tc, int IntKind.u8 members, slice ops opsn opsc, slice more moren morec] h K :=
 CallA.of_ev (cs := [21, 22, 26, 27, 34, 38, 42, 46, 51]) Try.func7 (by kernel_rfl) (fun _ _ => Try.call7 _ _) mixed (by kernel_rfl) (by kernel_rfl) k
end Go.Proofs.Ytghdadniddoboaa
