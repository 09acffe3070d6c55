import Derived.Test.YthojacmegofhcaaEqN
namespace Go.Proofs.Ythojacmegofhcaa
open Go Go.Sy Go.Value
set_option linter.unusedVariables false
def L_day_Check_0 (d : Nat) (n : Int) (i : Int) (h : Heap) (K : Value → Heap → Prop) : Prop :=
  LoopAt Try.prog Try.f15 15 (loopK Try.f15 0) (sp 66 [(1, pointer (some { block := d, off := 0 })), (3, int IntKind.i64 n), (4, int IntKind.i64 i)]) h K
def L_day_Check_0T (d : Nat) (n : Int) (i : Int) (h : Heap) (K : Value → Heap → Prop) : Prop :=
  Br (decide (i < n))
  (∃ (a : Option Addr),
    ∃ (n_1 : Nat),
      ∃ (m : Nat),
        Heap.cell h d 2 = some (slice a n_1 m) ∧
          0 ≤ i ∧
            i < (↑n_1 : Int) ∧
              withAddr a fun (b o : Nat) =>
                ∃ (n_2 : Int),
                  Heap.cell h b (o + Int.toNat i) = some (int IntKind.i64 n_2) ∧
                    ∃ (a : Option Addr),
                      ∃ (n_3 : Nat),
                        ∃ (m : Nat),
                          Heap.cell h d 2 = some (slice a n_3 m) ∧
                            0 ≤ IntKind.wrap IntKind.i64 (i - 1) ∧
                              IntKind.wrap IntKind.i64 (i - 1) < (↑n_3 : Int) ∧
                                withAddr a fun (b o : Nat) =>
                                  ∃ (n_4 : Int),
                                    Heap.cell h b (o + Int.toNat (IntKind.wrap IntKind.i64 (i - 1))) = some (int IntKind.i64 n_4) ∧
                                      Br (decide (n_2 ≤ n_4)) (Ret h K (int IntKind.i64 1)) (L_day_Check_0 d n (IntKind.wrap IntKind.i64 (i + 1)) h K))
  (Ret h K (int IntKind.i64 0))
theorem L_day_Check_0r (d : Nat) (n : Int) (i : Int) (h : Heap) (K : Value → Heap → Prop) (k : L_day_Check_0T d n i h K) : L_day_Check_0 d n i h K :=
  LoopAt.of_ev Try.func15 mixed (fun junk => by kernel_rfl) k
def F_day_CheckT (d_0 : Int) (d_1 : Int) (d_2 : Option Addr) (d_2n : Nat) (d_2c : Nat) (h : Heap) (K : Value → Heap → Prop) : Prop :=
  newB h [int IntKind.i64 d_0, int IntKind.i64 d_1, slice d_2 d_2n d_2c] 24 fun (r : Nat) (h : Heap) =>
  ∃ (a : Option Addr),
    ∃ (n : Nat),
      ∃ (m : Nat),
        Heap.cell h r 2 = some (slice a n m) ∧
          ∃ (n_1 : Int),
            Heap.cell h r 0 = some (int IntKind.i64 n_1) ∧
              Br (decide (n_1 < 0)) (Ret h K (int IntKind.i64 1))
                (∃ (n_2 : Int),
                  Heap.cell h r 0 = some (int IntKind.i64 n_2) ∧
                    ∃ (n_3 : Int),
                      Heap.cell h r 1 = some (int IntKind.i64 n_3) ∧
                        Br (decide (n_2 ≥ n_3)) (Ret h K (int IntKind.i64 1))
                          (∃ (n_4 : Int),
                            Heap.cell h r 1 = some (int IntKind.i64 n_4) ∧
                              Br (decide (n_4 > 2147483647)) (Ret h K (int IntKind.i64 1))
                                (Br (decide ((↑n : Int) < 1)) (Ret h K (int IntKind.i64 1))
                                  (Br (decide ((↑n : Int) > 16)) (Ret h K (int IntKind.i64 1))
                                    (∃ (a : Option Addr),
                                      ∃ (n_5 : Nat),
                                        ∃ (m : Nat),
                                          Heap.cell h r 2 = some (slice a n_5 m) ∧
                                            (0 : Int) ≤ 0 ∧
                                              0 < (↑n_5 : Int) ∧
                                                withAddr a fun (b o : Nat) =>
                                                  ∃ (n_6 : Int),
                                                    Heap.cell h b o = some (int IntKind.i64 n_6) ∧
                                                      ∃ (n_7 : Int),
                                                        Heap.cell h r 0 = some (int IntKind.i64 n_7) ∧
                                                          Br (decide (n_6 < n_7)) (Ret h K (int IntKind.i64 1))
                                                            (∃ (a : Option Addr),
                                                              ∃ (n_8 : Nat),
                                                                ∃ (m : Nat),
                                                                  Heap.cell h r 2 = some (slice a n_8 m) ∧
                                                                    0 ≤ IntKind.wrap IntKind.i64 ((↑n : Int) - 1) ∧
                                                                      IntKind.wrap IntKind.i64 ((↑n : Int) - 1) < (↑n_8 : Int) ∧
                                                                        withAddr a fun (b o : Nat) =>
                                                                          ∃ (n_9 : Int),
                                                                            Heap.cell h b (o + Int.toNat (IntKind.wrap IntKind.i64 ((↑n : Int) - 1))) = some (int IntKind.i64 n_9) ∧
                                                                              ∃ (n_10 : Int),
                                                                                Heap.cell h r 1 = some (int IntKind.i64 n_10) ∧ Br (decide (n_9 ≥ n_10)) (Ret h K (int IntKind.i64 1)) (L_day_Check_0 r (↑n : Int) 1 h K)))))))
theorem F_day_Check (d_0 : Int) (d_1 : Int) (d_2 : Option Addr) (d_2n : Nat) (d_2c : Nat) (h : Heap) (K : Value → Heap → Prop) (k : F_day_CheckT d_0 d_1 d_2 d_2n d_2c h K) : CallA Try.prog fn_day_Check [agg #[int IntKind.i64 d_0, int IntKind.i64 d_1, slice d_2 d_2n d_2c]] h K :=
  CallA.of_ev Try.func15 (by kernel_rfl) (fun _ _ => Try.call15 _ _) mixed (by kernel_rfl) (by kernel_rfl) k
def L_ref18_Check_0 (d : Nat) (last : Int) (i : Int) (h : Heap) (K : Value → Heap → Prop) : Prop :=
  LoopAt Try.prog Try.f16 16 (loopK Try.f16 0) (sp 64 [(1, pointer (some { block := d, off := 0 })), (3, int IntKind.i64 last), (4, int IntKind.i64 i)]) h K
def L_ref18_Check_0T (d : Nat) (last : Int) (i : Int) (h : Heap) (K : Value → Heap → Prop) : Prop :=
  ∃ (a : Option Addr),
  ∃ (n : Nat),
    ∃ (m : Nat),
      Heap.cell h d 2 = some (slice a n m) ∧
        Br (decide (i < (↑n : Int)))
          (∃ (a : Option Addr),
            ∃ (n : Nat),
              ∃ (m : Nat),
                Heap.cell h d 2 = some (slice a n m) ∧
                  0 ≤ i ∧
                    i < (↑n : Int) ∧
                      withAddr a fun (b o : Nat) =>
                        ∃ (n : Int),
                          Heap.cell h b (o + Int.toNat i) = some (int IntKind.i64 n) ∧
                            Br (decide (n ≤ last)) (Ret h K (int IntKind.i64 1))
                              (∃ (a : Option Addr),
                                ∃ (n : Nat),
                                  ∃ (m : Nat),
                                    Heap.cell h d 2 = some (slice a n m) ∧
                                      0 ≤ i ∧
                                        i < (↑n : Int) ∧
                                          withAddr a fun (b o : Nat) =>
                                            ∃ (n : Int),
                                              Heap.cell h b (o + Int.toNat i) = some (int IntKind.i64 n) ∧
                                                ∃ (n_1 : Int),
                                                  Heap.cell h d 1 = some (int IntKind.i64 n_1) ∧
                                                    Br (decide (n ≥ n_1)) (Ret h K (int IntKind.i64 1))
                                                      (∃ (a : Option Addr),
                                                        ∃ (n : Nat),
                                                          ∃ (m : Nat),
                                                            Heap.cell h d 2 = some (slice a n m) ∧
                                                              0 ≤ i ∧
                                                                i < (↑n : Int) ∧
                                                                  withAddr a fun (b o : Nat) =>
                                                                    ∃ (n : Int), Heap.cell h b (o + Int.toNat i) = some (int IntKind.i64 n) ∧ L_ref18_Check_0 d n (IntKind.wrap IntKind.i64 (i + 1)) h K)))
          (Ret h K (int IntKind.i64 0))
theorem L_ref18_Check_0r (d : Nat) (last : Int) (i : Int) (h : Heap) (K : Value → Heap → Prop) (k : L_ref18_Check_0T d last i h K) : L_ref18_Check_0 d last i h K :=
  LoopAt.of_ev Try.func16 mixed (fun junk => by kernel_rfl) k
def F_ref18_CheckT (d_0 : Int) (d_1 : Int) (d_2 : Option Addr) (d_2n : Nat) (d_2c : Nat) (h : Heap) (K : Value → Heap → Prop) : Prop :=
  newB h [int IntKind.i64 d_0, int IntKind.i64 d_1, slice d_2 d_2n d_2c] 29 fun (r : Nat) (h : Heap) =>
  ∃ (n : Int),
    Heap.cell h r 0 = some (int IntKind.i64 n) ∧
      Br (decide (n < 0)) (Ret h K (int IntKind.i64 1))
        (∃ (n : Int),
          Heap.cell h r 1 = some (int IntKind.i64 n) ∧
            ∃ (n_1 : Int),
              Heap.cell h r 0 = some (int IntKind.i64 n_1) ∧
                Br (decide (n ≤ n_1)) (Ret h K (int IntKind.i64 1))
                  (∃ (n : Int),
                    Heap.cell h r 1 = some (int IntKind.i64 n) ∧
                      Br (decide (n > 2147483647)) (Ret h K (int IntKind.i64 1))
                        (∃ (a : Option Addr),
                          ∃ (n : Nat),
                            ∃ (m : Nat),
                              Heap.cell h r 2 = some (slice a n m) ∧
                                Br ((↑n : Int) == 0) (Ret h K (int IntKind.i64 1))
                                  (∃ (a : Option Addr),
                                    ∃ (n : Nat),
                                      ∃ (m : Nat),
                                        Heap.cell h r 2 = some (slice a n m) ∧
                                          Br (decide ((↑n : Int) > 16)) (Ret h K (int IntKind.i64 1)) (∃ (n : Int), Heap.cell h r 0 = some (int IntKind.i64 n) ∧ L_ref18_Check_0 r (IntKind.wrap IntKind.i64 (n - 1)) 0 h K)))))
theorem F_ref18_Check (d_0 : Int) (d_1 : Int) (d_2 : Option Addr) (d_2n : Nat) (d_2c : Nat) (h : Heap) (K : Value → Heap → Prop) (k : F_ref18_CheckT d_0 d_1 d_2 d_2n d_2c h K) : CallA Try.prog fn_ref18_Check [agg #[int IntKind.i64 d_0, int IntKind.i64 d_1, slice d_2 d_2n d_2c]] h K :=
  CallA.of_ev Try.func16 (by kernel_rfl) (fun _ _ => Try.call16 _ _) mixed (by kernel_rfl) (by kernel_rfl) k
def F_day_MayT (phase : Int) (kind : Int) (h : Heap) (K : Value → Heap → Prop) : Prop :=
  Br (kind == 4)
  (Br (kind == 4) (Br (phase == 2) (Ret h K (Value.bool true)) (Br (phase == 1) (Ret h K (Value.bool true)) (Ret h K (Value.bool (phase == 0)))))
    (Br (kind == 2) (Br (kind == 2) (Br (phase == 1) (Ret h K (Value.bool true)) (Ret h K (Value.bool (phase == 0)))) (Br (kind == 1) (Ret h K (Value.bool (phase == 0))) (Ret h K (Value.bool false))))
      (Br (kind == 3) (Br (kind == 3) (Br (phase == 1) (Ret h K (Value.bool true)) (Ret h K (Value.bool (phase == 0)))) (Br (kind == 1) (Ret h K (Value.bool (phase == 0))) (Ret h K (Value.bool false))))
        (Br (kind == 5) (Br (kind == 5) (Br (phase == 1) (Ret h K (Value.bool true)) (Ret h K (Value.bool (phase == 0)))) (Br (kind == 1) (Ret h K (Value.bool (phase == 0))) (Ret h K (Value.bool false))))
          (Br (kind == 6) (Br (kind == 6) (Br (phase == 1) (Ret h K (Value.bool true)) (Ret h K (Value.bool (phase == 0)))) (Br (kind == 1) (Ret h K (Value.bool (phase == 0))) (Ret h K (Value.bool false))))
            (Br (kind == 7) (Br (kind == 7) (Br (phase == 1) (Ret h K (Value.bool true)) (Ret h K (Value.bool (phase == 0)))) (Br (kind == 1) (Ret h K (Value.bool (phase == 0))) (Ret h K (Value.bool false))))
              (Br (kind == 8) (Br (phase == 1) (Ret h K (Value.bool true)) (Ret h K (Value.bool (phase == 0)))) (Br (kind == 1) (Ret h K (Value.bool (phase == 0))) (Ret h K (Value.bool false))))))))))
  (Br (kind == 9) (Br (phase == 2) (Ret h K (Value.bool true)) (Br (phase == 1) (Ret h K (Value.bool true)) (Ret h K (Value.bool (phase == 0)))))
    (Br (kind == 2) (Br (kind == 2) (Br (phase == 1) (Ret h K (Value.bool true)) (Ret h K (Value.bool (phase == 0)))) (Br (kind == 1) (Ret h K (Value.bool (phase == 0))) (Ret h K (Value.bool false))))
      (Br (kind == 3) (Br (kind == 3) (Br (phase == 1) (Ret h K (Value.bool true)) (Ret h K (Value.bool (phase == 0)))) (Br (kind == 1) (Ret h K (Value.bool (phase == 0))) (Ret h K (Value.bool false))))
        (Br (kind == 5) (Br (kind == 5) (Br (phase == 1) (Ret h K (Value.bool true)) (Ret h K (Value.bool (phase == 0)))) (Br (kind == 1) (Ret h K (Value.bool (phase == 0))) (Ret h K (Value.bool false))))
          (Br (kind == 6) (Br (kind == 6) (Br (phase == 1) (Ret h K (Value.bool true)) (Ret h K (Value.bool (phase == 0)))) (Br (kind == 1) (Ret h K (Value.bool (phase == 0))) (Ret h K (Value.bool false))))
            (Br (kind == 7) (Br (kind == 7) (Br (phase == 1) (Ret h K (Value.bool true)) (Ret h K (Value.bool (phase == 0)))) (Br (kind == 1) (Ret h K (Value.bool (phase == 0))) (Ret h K (Value.bool false))))
              (Br (kind == 8) (Br (phase == 1) (Ret h K (Value.bool true)) (Ret h K (Value.bool (phase == 0)))) (Br (kind == 1) (Ret h K (Value.bool (phase == 0))) (Ret h K (Value.bool false))))))))))
theorem F_day_May (phase : Int) (kind : Int) (h : Heap) (K : Value → Heap → Prop) (k : F_day_MayT phase kind h K) : CallA Try.prog fn_day_May [int IntKind.i64 phase, int IntKind.i64 kind] h K :=
  CallA.of_ev Try.func17 (by kernel_rfl) (fun _ _ => Try.call17 _ _) mixed (by kernel_rfl) (by kernel_rfl) k
def L_ref18_May_0 (phase : Int) (kind : Int) (l : Option Addr) (ln : Nat) (lc : Nat) (i : Int) (h : Heap) (K : Value → Heap → Prop) : Prop :=
  LoopAt Try.prog Try.f18 18 (loopK Try.f18 0) (sp 41 [(0, int IntKind.i64 phase), (1, int IntKind.i64 kind), (5, slice l ln lc), (6, int IntKind.i64 i)]) h K
def L_ref18_May_0T (phase : Int) (kind : Int) (l : Option Addr) (ln : Nat) (lc : Nat) (i : Int) (h : Heap) (K : Value → Heap → Prop) : Prop :=
  0 ≤ phase ∧
  phase < (↑ln : Int) ∧
    withAddr l fun (b o : Nat) =>
      ∃ (s : ByteArray),
        Heap.cell h b (o + Int.toNat phase) = some (string s) ∧
          Br (decide (i < (↑(ByteArray.size s) : Int)))
            (0 ≤ phase ∧
              phase < (↑ln : Int) ∧
                withAddr l fun (b o : Nat) =>
                  ∃ (s : ByteArray),
                    Heap.cell h b (o + Int.toNat phase) = some (string s) ∧
                      0 ≤ i ∧
                        ∃ (c : UInt8),
                          s[Int.toNat i]? = some c ∧
                            Br (IntKind.wrap IntKind.i64 (IntKind.wrap IntKind.i64 (↑(UInt8.toNat c) : Int) - 48) == kind) (Ret h K (Value.bool true)) (L_ref18_May_0 phase kind l ln lc (IntKind.wrap IntKind.i64 (i + 1)) h K))
            (Ret h K (Value.bool false))
theorem L_ref18_May_0r (phase : Int) (kind : Int) (l : Option Addr) (ln : Nat) (lc : Nat) (i : Int) (h : Heap) (K : Value → Heap → Prop) (k : L_ref18_May_0T phase kind l ln lc i h K) : L_ref18_May_0 phase kind l ln lc i h K :=
  LoopAt.of_ev Try.func18 mixed (fun junk => by kernel_rfl) k
def F_ref18_MayT (phase : Int) (kind : Int) (h : Heap) (K : Value → Heap → Prop) : Prop :=
  newB h [string { data := #[49, 50, 51, 52, 53, 54, 55, 56, 57] }, string { data := #[50, 51, 52, 53, 54, 55, 56, 57] }, string { data := #[52, 57] }] 9 fun (r : Nat) (h : Heap) =>
  Br (decide (phase < 0)) (Ret h K (Value.bool false))
    (Br (decide (phase > 2)) (Ret h K (Value.bool false))
      (Br (decide (kind < 1)) (Ret h K (Value.bool false)) (Br (decide (kind > 9)) (Ret h K (Value.bool false)) (L_ref18_May_0 phase kind (some { block := r, off := 0 }) 3 3 0 h K))))
theorem F_ref18_May (phase : Int) (kind : Int) (h : Heap) (K : Value → Heap → Prop) (k : F_ref18_MayT phase kind h K) : CallA Try.prog fn_ref18_May [int IntKind.i64 phase, int IntKind.i64 kind] h K :=
  CallA.of_ev Try.func18 (by kernel_rfl) (fun _ _ => Try.call18 _ _) mixed (by kernel_rfl) (by kernel_rfl) k
def L_ref11_Same_0 (a : Option Addr) (an : Nat) (ac : Nat) (b : Option Addr) (bn : Nat) (bc : Nat) (i : Int) (h : Heap) (K : Value → Heap → Prop) : Prop :=
  LoopAt Try.prog Try.f19 19 (loopK Try.f19 0) (sp 26 [(0, slice a an ac), (1, slice b bn bc), (5, int IntKind.i64 i)]) h K
def L_ref11_Same_0T (a : Option Addr) (an : Nat) (ac : Nat) (b : Option Addr) (bn : Nat) (bc : Nat) (i : Int) (h : Heap) (K : Value → Heap → Prop) : Prop :=
  Br (decide (i < (↑an : Int)))
  (0 ≤ i ∧
    i < (↑an : Int) ∧
      withAddr a fun (b_1 o : Nat) =>
        ∃ (n : Int),
          Heap.cell h b_1 (o + Int.toNat i) = some (int IntKind.i64 n) ∧
            0 ≤ i ∧
              i < (↑bn : Int) ∧
                withAddr b fun (b_2 o : Nat) =>
                  ∃ (n_1 : Int), Heap.cell h b_2 (o + Int.toNat i) = some (int IntKind.i64 n_1) ∧ Br (n != n_1) (Ret h K (Value.bool false)) (L_ref11_Same_0 a an ac b bn bc (IntKind.wrap IntKind.i64 (i + 1)) h K))
  (Ret h K (Value.bool true))
theorem L_ref11_Same_0r (a : Option Addr) (an : Nat) (ac : Nat) (b : Option Addr) (bn : Nat) (bc : Nat) (i : Int) (h : Heap) (K : Value → Heap → Prop) (k : L_ref11_Same_0T a an ac b bn bc i h K) : L_ref11_Same_0 a an ac b bn bc i h K :=
  LoopAt.of_ev Try.func19 mixed (fun junk => by kernel_rfl) k
def F_ref11_SameT (a : Option Addr) (an : Nat) (ac : Nat) (b : Option Addr) (bn : Nat) (bc : Nat) (h : Heap) (K : Value → Heap → Prop) : Prop :=
  Br ((↑an : Int) != (↑bn : Int)) (Ret h K (Value.bool false)) (L_ref11_Same_0 a an ac b bn bc 0 h K)
theorem F_ref11_Same (a : Option Addr) (an : Nat) (ac : Nat) (b : Option Addr) (bn : Nat) (bc : Nat) (h : Heap) (K : Value → Heap → Prop) (k : F_ref11_SameT a an ac b bn bc h K) : CallA Try.prog fn_ref11_Same [slice a an ac, slice b bn bc] h K :=
  CallA.of_ev Try.func19 (by kernel_rfl) (fun _ _ => Try.call19 _ _) mixed (by kernel_rfl) (by kernel_rfl) k
def F_day_CrossedT (d_0 : Int) (d_1 : Int) (d_2 : Option Addr) (d_2n : Nat) (d_2c : Nat) (from' : Int) (to : Int) (h : Heap) (K : Value → Heap → Prop) : Prop :=
  newB h [int IntKind.i64 d_0, int IntKind.i64 d_1, slice d_2 d_2n d_2c] 24 fun (r : Nat) (h : Heap) =>
  newB h [int IntKind.i64 from'] 3 fun (r_1 : Nat) (h : Heap) =>
    newB h [int IntKind.i64 to] 3 fun (r_2 : Nat) (h : Heap) =>
      ∃ (a : Option Addr),
        ∃ (n : Nat),
          ∃ (m : Nat),
            Heap.cell h r 2 = some (slice a n m) ∧
              CallA Try.prog fn_slices_Clone_int_int [slice a n m] h fun (v : Value) (h : Heap) =>
                ∃ (a : Option Addr),
                  ∃ (n : Nat),
                    ∃ (m : Nat),
                      v = slice a n m ∧
                        CallA Try.prog fn_slices_DeleteFunc_int_int [slice a n m, func (Fn.func fn_day_Crossed_1) #[] #[pointer (some { block := r_1, off := 0 }), pointer (some { block := r_2, off := 0 })]] h fun (v : Value) (h : Heap) =>
                          ∃ (a : Option Addr), ∃ (n : Nat), ∃ (m : Nat), v = slice a n m ∧ Ret h K (slice a n m)
theorem F_day_Crossed (d_0 : Int) (d_1 : Int) (d_2 : Option Addr) (d_2n : Nat) (d_2c : Nat) (from' : Int) (to : Int) (h : Heap) (K : Value → Heap → Prop) (k : F_day_CrossedT d_0 d_1 d_2 d_2n d_2c from' to h K) : CallA Try.prog fn_day_Crossed [agg #[int IntKind.i64 d_0, int IntKind.i64 d_1, slice d_2 d_2n d_2c], int IntKind.i64 from', int IntKind.i64 to] h K :=
  CallA.of_ev Try.func20 (by kernel_rfl) (fun _ _ => Try.call20 _ _) mixed (by kernel_rfl) (by kernel_rfl) k
def L_ref18_Crossed_0 (from' : Int) (to : Int) (d : Nat) (out : Option Addr) (outn : Nat) (outc : Nat) (i : Int) (h : Heap) (K : Value → Heap → Prop) : Prop :=
  LoopAt Try.prog Try.f21 21 (loopK Try.f21 0) (sp 42 [(1, int IntKind.i64 from'), (2, int IntKind.i64 to), (3, pointer (some { block := d, off := 0 })), (7, slice out outn outc), (8, int IntKind.i64 i)]) h K
def L_ref18_Crossed_0T (from' : Int) (to : Int) (d : Nat) (out : Option Addr) (outn : Nat) (outc : Nat) (i : Int) (h : Heap) (K : Value → Heap → Prop) : Prop :=
  ∃ (a : Option Addr),
  ∃ (n : Nat),
    ∃ (m : Nat),
      Heap.cell h d 2 = some (slice a n m) ∧
        Br (decide (i < (↑n : Int)))
          (∃ (a : Option Addr),
            ∃ (n : Nat),
              ∃ (m : Nat),
                Heap.cell h d 2 = some (slice a n m) ∧
                  0 ≤ i ∧
                    i < (↑n : Int) ∧
                      withAddr a fun (b o : Nat) =>
                        ∃ (n : Int),
                          Heap.cell h b (o + Int.toNat i) = some (int IntKind.i64 n) ∧
                            Br (decide (n > from'))
                              (∃ (a : Option Addr),
                                ∃ (n : Nat),
                                  ∃ (m : Nat),
                                    Heap.cell h d 2 = some (slice a n m) ∧
                                      0 ≤ i ∧
                                        i < (↑n : Int) ∧
                                          withAddr a fun (b o : Nat) =>
                                            ∃ (n : Int),
                                              Heap.cell h b (o + Int.toNat i) = some (int IntKind.i64 n) ∧
                                                Br (decide (n ≤ to))
                                                  (∃ (a : Option Addr),
                                                    ∃ (n : Nat),
                                                      ∃ (m : Nat),
                                                        Heap.cell h d 2 = some (slice a n m) ∧
                                                          0 ≤ i ∧
                                                            i < (↑n : Int) ∧
                                                              withAddr a fun (b o : Nat) =>
                                                                ∃ (n : Int),
                                                                  Heap.cell h b (o + Int.toNat i) = some (int IntKind.i64 n) ∧
                                                                    newB h [int IntKind.i64 n] 3 fun (r : Nat) (h : Heap) =>
                                                                      AppA [int IntKind.i64 0] 3 h out outn outc 1 (some { block := r, off := 0 }) fun (ap : Option Addr) (cp : Nat) (h : Heap) =>
                                                                        L_ref18_Crossed_0 from' to d ap (outn + 1) cp (IntKind.wrap IntKind.i64 (i + 1)) h K)
                                                  (L_ref18_Crossed_0 from' to d out outn outc (IntKind.wrap IntKind.i64 (i + 1)) h K))
                              (L_ref18_Crossed_0 from' to d out outn outc (IntKind.wrap IntKind.i64 (i + 1)) h K))
          (Ret h K (slice out outn outc))
theorem L_ref18_Crossed_0r (from' : Int) (to : Int) (d : Nat) (out : Option Addr) (outn : Nat) (outc : Nat) (i : Int) (h : Heap) (K : Value → Heap → Prop) (k : L_ref18_Crossed_0T from' to d out outn outc i h K) : L_ref18_Crossed_0 from' to d out outn outc i h K :=
  LoopAt.of_ev Try.func21 mixed (fun junk => by kernel_rfl) k
def F_ref18_CrossedT (d_0 : Int) (d_1 : Int) (d_2 : Option Addr) (d_2n : Nat) (d_2c : Nat) (from' : Int) (to : Int) (h : Heap) (K : Value → Heap → Prop) : Prop :=
  newB h [int IntKind.i64 d_0, int IntKind.i64 d_1, slice d_2 d_2n d_2c] 29 fun (r : Nat) (h : Heap) => newB h [] 3 fun (r_1 : Nat) (h : Heap) => L_ref18_Crossed_0 from' to r (some { block := r_1, off := 0 }) 0 0 0 h K
theorem F_ref18_Crossed (d_0 : Int) (d_1 : Int) (d_2 : Option Addr) (d_2n : Nat) (d_2c : Nat) (from' : Int) (to : Int) (h : Heap) (K : Value → Heap → Prop) (k : F_ref18_CrossedT d_0 d_1 d_2 d_2n d_2c from' to h K) : CallA Try.prog fn_ref18_Crossed [agg #[int IntKind.i64 d_0, int IntKind.i64 d_1, slice d_2 d_2n d_2c], int IntKind.i64 from', int IntKind.i64 to] h K :=
  CallA.of_ev Try.func21 (by kernel_rfl) (fun _ _ => Try.call21 _ _) mixed (by kernel_rfl) (by kernel_rfl) k
def F_day_PhaseT (d_0 : Int) (d_1 : Int) (d_2 : Option Addr) (d_2n : Nat) (d_2c : Nat) (now : Int) (h : Heap) (K : Value → Heap → Prop) : Prop :=
  newB h [int IntKind.i64 d_0, int IntKind.i64 d_1, slice d_2 d_2n d_2c] 24 fun (r : Nat) (h : Heap) =>
  ∃ (n : Int),
    Heap.cell h r 0 = some (int IntKind.i64 n) ∧
      Br (decide (now < n)) (Ret h K (int IntKind.i64 0)) (∃ (n : Int), Heap.cell h r 1 = some (int IntKind.i64 n) ∧ Br (decide (now < n)) (Ret h K (int IntKind.i64 1)) (Ret h K (int IntKind.i64 2)))
theorem F_day_Phase (d_0 : Int) (d_1 : Int) (d_2 : Option Addr) (d_2n : Nat) (d_2c : Nat) (now : Int) (h : Heap) (K : Value → Heap → Prop) (k : F_day_PhaseT d_0 d_1 d_2 d_2n d_2c now h K) : CallA Try.prog fn_day_Phase [agg #[int IntKind.i64 d_0, int IntKind.i64 d_1, slice d_2 d_2n d_2c], int IntKind.i64 now] h K :=
  CallA.of_ev Try.func22 (by kernel_rfl) (fun _ _ => Try.call22 _ _) mixed (by kernel_rfl) (by kernel_rfl) k
def F_ref18_PhaseT (d_0 : Int) (d_1 : Int) (d_2 : Option Addr) (d_2n : Nat) (d_2c : Nat) (now : Int) (h : Heap) (K : Value → Heap → Prop) : Prop :=
  newB h [int IntKind.i64 d_0, int IntKind.i64 d_1, slice d_2 d_2n d_2c] 29 fun (r : Nat) (h : Heap) =>
  ∃ (n : Int),
    Heap.cell h r 0 = some (int IntKind.i64 n) ∧
      Br (decide (now ≥ n)) (∃ (n : Int), Heap.cell h r 1 = some (int IntKind.i64 n) ∧ Br (decide (now ≥ n)) (Ret h K (int IntKind.i64 2)) (Ret h K (int IntKind.i64 1)))
        (∃ (n : Int), Heap.cell h r 1 = some (int IntKind.i64 n) ∧ Br (decide (now ≥ n)) (Ret h K (int IntKind.i64 1)) (Ret h K (int IntKind.i64 0)))
theorem F_ref18_Phase (d_0 : Int) (d_1 : Int) (d_2 : Option Addr) (d_2n : Nat) (d_2c : Nat) (now : Int) (h : Heap) (K : Value → Heap → Prop) (k : F_ref18_PhaseT d_0 d_1 d_2 d_2n d_2c now h K) : CallA Try.prog fn_ref18_Phase [agg #[int IntKind.i64 d_0, int IntKind.i64 d_1, slice d_2 d_2n d_2c], int IntKind.i64 now] h K :=
  CallA.of_ev Try.func23 (by kernel_rfl) (fun _ _ => Try.call23 _ _) mixed (by kernel_rfl) (by kernel_rfl) k
def F_day_Crossed_1T (t : Int) (c0 : Nat) (c1 : Nat) (h : Heap) (K : Value → Heap → Prop) : Prop :=
  ∃ (n : Int), Heap.cell h c0 0 = some (int IntKind.i64 n) ∧ Br (decide (t ≤ n)) (Ret h K (Value.bool true)) (∃ (n : Int), Heap.cell h c1 0 = some (int IntKind.i64 n) ∧ Ret h K (Value.bool (decide (t > n))))
theorem F_day_Crossed_1 (t : Int) (c0 : Nat) (c1 : Nat) (h : Heap) (K : Value → Heap → Prop) (k : F_day_Crossed_1T t c0 c1 h K) : CallA Try.prog fn_day_Crossed_1 [int IntKind.i64 t, pointer (some { block := c0, off := 0 }), pointer (some { block := c1, off := 0 })] h K :=
  CallA.of_ev Try.func56 (by kernel_rfl) (fun _ _ => Try.call56 _ _) mixed (by kernel_rfl) (by kernel_rfl) k
def L_slices_DeleteFunc_int_int_0 (s : Option Addr) (sn : Nat) (sc : Nat) (del_0 : Nat) (del_1 : Nat) (i : Int) (j : Int) (h : Heap) (K : Value → Heap → Prop) : Prop :=
  LoopAt Try.prog Try.f57 57 (loopK Try.f57 0) (sp 42 [(0, slice s sn sc), (1, func (Fn.func fn_day_Crossed_1) #[] #[pointer (some { block := del_0, off := 0 }), pointer (some { block := del_1, off := 0 })]), (5, int IntKind.i64 i), (6, int IntKind.i64 j)]) h K
def L_slices_DeleteFunc_int_int_0T (s : Option Addr) (sn : Nat) (sc : Nat) (del_0 : Nat) (del_1 : Nat) (i : Int) (j : Int) (h : Heap) (K : Value → Heap → Prop) : Prop :=
  Br (decide (j < (↑sn : Int)))
  (0 ≤ j ∧
    j < (↑sn : Int) ∧
      withAddr s fun (b o : Nat) =>
        ∃ (n : Int),
          Heap.cell h b (o + Int.toNat j) = some (int IntKind.i64 n) ∧
            CallA Try.prog fn_day_Crossed_1 [int IntKind.i64 n, pointer (some { block := del_0, off := 0 }), pointer (some { block := del_1, off := 0 })] h fun (v : Value) (h : Heap) =>
              ∃ (b : Bool),
                v = Value.bool b ∧
                  Br (!b)
                    (0 ≤ i ∧
                      i < (↑sn : Int) ∧
                        withAddr s fun (b o : Nat) =>
                          Heap.canSt h b (o + Int.toNat i) 1 ∧ L_slices_DeleteFunc_int_int_0 s sn sc del_0 del_1 (IntKind.wrap IntKind.i64 (i + 1)) (IntKind.wrap IntKind.i64 (j + 1)) (Heap.setN h b (o + Int.toNat i) [int IntKind.i64 n]) K)
                    (L_slices_DeleteFunc_int_int_0 s sn sc del_0 del_1 i (IntKind.wrap IntKind.i64 (j + 1)) h K))
  (0 ≤ i ∧ i ≤ (↑sn : Int) ∧ ClearA [int IntKind.i64 0] h (slAddr s (Int.toNat i) sc 1) (sn - Int.toNat i) fun (h : Heap) => 0 ≤ i ∧ i ≤ (↑sc : Int) ∧ Ret h K (slice s (Int.toNat i) sc))
theorem L_slices_DeleteFunc_int_int_0r (s : Option Addr) (sn : Nat) (sc : Nat) (del_0 : Nat) (del_1 : Nat) (i : Int) (j : Int) (h : Heap) (K : Value → Heap → Prop) (k : L_slices_DeleteFunc_int_int_0T s sn sc del_0 del_1 i j h K) : L_slices_DeleteFunc_int_int_0 s sn sc del_0 del_1 i j h K :=
  LoopAt.of_ev Try.func57 mixed (fun junk => by kernel_rfl) k
def F_slices_DeleteFunc_int_intT (s : Option Addr) (sn : Nat) (sc : Nat) (delr0 : Nat) (delr1 : Nat) (h : Heap) (K : Value → Heap → Prop) : Prop :=
  CallA Try.prog fn_slices_IndexFunc_int_int [slice s sn sc, func (Fn.func fn_day_Crossed_1) #[] #[pointer (some { block := delr0, off := 0 }), pointer (some { block := delr1, off := 0 })]] h fun (v : Value) (h : Heap) =>
  ∃ (n : Int), v = int IntKind.i64 n ∧ Br (n == -1) (Ret h K (slice s sn sc)) (L_slices_DeleteFunc_int_int_0 s sn sc delr0 delr1 n (IntKind.wrap IntKind.i64 (n + 1)) h K)
theorem F_slices_DeleteFunc_int_int (s : Option Addr) (sn : Nat) (sc : Nat) (delr0 : Nat) (delr1 : Nat) (h : Heap) (K : Value → Heap → Prop) (k : F_slices_DeleteFunc_int_intT s sn sc delr0 delr1 h K) : CallA Try.prog fn_slices_DeleteFunc_int_int [slice s sn sc, func (Fn.func fn_day_Crossed_1) #[] #[pointer (some { block := delr0, off := 0 }), pointer (some { block := delr1, off := 0 })]] h K :=
  CallA.of_ev Try.func57 (by kernel_rfl) (fun _ _ => Try.call57 _ _) mixed (by kernel_rfl) (by kernel_rfl) k
def F_slices_Clone_int_intT (s : Option Addr) (sn : Nat) (sc : Nat) (h : Heap) (K : Value → Heap → Prop) : Prop :=
  Br (Option.isNone s) (Ret h K (slice none 0 0))
  (newB h [] 3 fun (r : Nat) (h : Heap) => AppA [int IntKind.i64 0] 3 h (some { block := r, off := 0 }) 0 0 sn s fun (ap : Option Addr) (cp : Nat) (h : Heap) => Ret h K (slice ap (0 + sn) cp))
theorem F_slices_Clone_int_int (s : Option Addr) (sn : Nat) (sc : Nat) (h : Heap) (K : Value → Heap → Prop) (k : F_slices_Clone_int_intT s sn sc h K) : CallA Try.prog fn_slices_Clone_int_int [slice s sn sc] h K :=
  CallA.of_ev Try.func58 (by kernel_rfl) (fun _ _ => Try.call58 _ _) mixed (by kernel_rfl) (by kernel_rfl) k
def L_slices_IndexFunc_int_int_0 (s : Option Addr) (sn : Nat) (sc : Nat) (f_0 : Nat) (f_1 : Nat) (t7 : Int) (t8 : Int) (h : Heap) (K : Value → Heap → Prop) : Prop :=
  LoopAt Try.prog Try.f75 75 (loopK Try.f75 0) (sp 19 [(0, slice s sn sc), (1, func (Fn.func fn_day_Crossed_1) #[] #[pointer (some { block := f_0, off := 0 }), pointer (some { block := f_1, off := 0 })]), (7, int IntKind.i64 t7), (8, int IntKind.i64 t8)]) h K
def L_slices_IndexFunc_int_int_0T (s : Option Addr) (sn : Nat) (sc : Nat) (f_0 : Nat) (f_1 : Nat) (t7 : Int) (t8 : Int) (h : Heap) (K : Value → Heap → Prop) : Prop :=
  Br (decide (t8 < t7))
  (0 ≤ t8 ∧
    t8 < (↑sn : Int) ∧
      withAddr s fun (b o : Nat) =>
        ∃ (n : Int),
          Heap.cell h b (o + Int.toNat t8) = some (int IntKind.i64 n) ∧
            CallA Try.prog fn_day_Crossed_1 [int IntKind.i64 n, pointer (some { block := f_0, off := 0 }), pointer (some { block := f_1, off := 0 })] h fun (v : Value) (h : Heap) =>
              ∃ (b : Bool), v = Value.bool b ∧ Br b (Ret h K (int IntKind.i64 t8)) (L_slices_IndexFunc_int_int_0 s sn sc f_0 f_1 t7 (IntKind.wrap IntKind.i64 (t8 + 1)) h K))
  (Ret h K (int IntKind.i64 (-1)))
theorem L_slices_IndexFunc_int_int_0r (s : Option Addr) (sn : Nat) (sc : Nat) (f_0 : Nat) (f_1 : Nat) (t7 : Int) (t8 : Int) (h : Heap) (K : Value → Heap → Prop) (k : L_slices_IndexFunc_int_int_0T s sn sc f_0 f_1 t7 t8 h K) : L_slices_IndexFunc_int_int_0 s sn sc f_0 f_1 t7 t8 h K :=
  LoopAt.of_ev Try.func75 mixed (fun junk => by kernel_rfl) k
def F_slices_IndexFunc_int_intT (s : Option Addr) (sn : Nat) (sc : Nat) (fr0 : Nat) (fr1 : Nat) (h : Heap) (K : Value → Heap → Prop) : Prop :=
  L_slices_IndexFunc_int_int_0 s sn sc fr0 fr1 (↑sn : Int) 0 h K
theorem F_slices_IndexFunc_int_int (s : Option Addr) (sn : Nat) (sc : Nat) (fr0 : Nat) (fr1 : Nat) (h : Heap) (K : Value → Heap → Prop) (k : F_slices_IndexFunc_int_intT s sn sc fr0 fr1 h K) : CallA Try.prog fn_slices_IndexFunc_int_int [slice s sn sc, func (Fn.func fn_day_Crossed_1) #[] #[pointer (some { block := fr0, off := 0 }), pointer (some { block := fr1, off := 0 })]] h K :=
  CallA.of_ev Try.func75 (by kernel_rfl) (fun _ _ => Try.call75 _ _) mixed (by kernel_rfl) (by kernel_rfl) k
end Go.Proofs.Ythojacmegofhcaa
