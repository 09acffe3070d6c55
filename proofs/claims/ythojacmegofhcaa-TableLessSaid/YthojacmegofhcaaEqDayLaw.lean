import Derived.Test.YthojacmegofhcaaEqN
namespace Go.Proofs.Ythojacmegofhcaa
open Go Go.Sy Go.Value
set_option linter.unusedVariables false
def F_law18_awakeT (h : Heap) (K : Value → Heap → Prop) : Prop :=
  newB h [int IntKind.i64 12, int IntKind.i64 15] 3 fun (r : Nat) (h : Heap) =>
  newB h [int IntKind.i64 0, int IntKind.i64 0, slice none 0 0] 24 fun (r_1 : Nat) (h : Heap) =>
    Heap.canSt h r_1 0 3 ∧
      ∃ (n : Int),
        Heap.cell (Heap.setN h r_1 0 [int IntKind.i64 10, int IntKind.i64 20, slice (some { block := r, off := 0 }) 2 2]) r_1 0 = some (int IntKind.i64 n) ∧
          ∃ (n_1 : Int),
            Heap.cell (Heap.setN h r_1 0 [int IntKind.i64 10, int IntKind.i64 20, slice (some { block := r, off := 0 }) 2 2]) r_1 1 = some (int IntKind.i64 n_1) ∧
              ∃ (a : Option Addr),
                ∃ (n_2 : Nat),
                  ∃ (m : Nat),
                    Heap.cell (Heap.setN h r_1 0 [int IntKind.i64 10, int IntKind.i64 20, slice (some { block := r, off := 0 }) 2 2]) r_1 2 = some (slice a n_2 m) ∧
                      CallA Try.prog fn_day_Check [agg #[int IntKind.i64 n, int IntKind.i64 n_1, slice a n_2 m]] (Heap.setN h r_1 0 [int IntKind.i64 10, int IntKind.i64 20, slice (some { block := r, off := 0 }) 2 2])
                        fun (v : Value) (h : Heap) =>
                        ∃ (n : Int),
                          v = int IntKind.i64 n ∧
                            Br (n == 0)
                              (CallA Try.prog fn_day_Check [agg #[int IntKind.i64 0, int IntKind.i64 0, slice none 0 0]] h fun (v : Value) (h : Heap) =>
                                ∃ (n : Int),
                                  v = int IntKind.i64 n ∧
                                    Br (n == 1)
                                      (∃ (n : Int),
                                        Heap.cell h r_1 0 = some (int IntKind.i64 n) ∧
                                          ∃ (n_3 : Int),
                                            Heap.cell h r_1 1 = some (int IntKind.i64 n_3) ∧
                                              ∃ (a : Option Addr),
                                                ∃ (n_4 : Nat),
                                                  ∃ (m : Nat),
                                                    Heap.cell h r_1 2 = some (slice a n_4 m) ∧
                                                      CallA Try.prog fn_day_Phase [agg #[int IntKind.i64 n, int IntKind.i64 n_3, slice a n_4 m], int IntKind.i64 9] h fun (v : Value) (h : Heap) =>
                                                        ∃ (n : Int),
                                                          v = int IntKind.i64 n ∧
                                                            Br (n == 0)
                                                              (∃ (n : Int),
                                                                Heap.cell h r_1 0 = some (int IntKind.i64 n) ∧
                                                                  ∃ (n_5 : Int),
                                                                    Heap.cell h r_1 1 = some (int IntKind.i64 n_5) ∧
                                                                      ∃ (a : Option Addr),
                                                                        ∃ (n_6 : Nat),
                                                                          ∃ (m : Nat),
                                                                            Heap.cell h r_1 2 = some (slice a n_6 m) ∧
                                                                              CallA Try.prog fn_day_Phase [agg #[int IntKind.i64 n, int IntKind.i64 n_5, slice a n_6 m], int IntKind.i64 10] h fun (v : Value) (h : Heap) =>
                                                                                ∃ (n : Int),
                                                                                  v = int IntKind.i64 n ∧
                                                                                    Br (n == 1)
                                                                                      (∃ (n : Int),
                                                                                        Heap.cell h r_1 0 = some (int IntKind.i64 n) ∧
                                                                                          ∃ (n_7 : Int),
                                                                                            Heap.cell h r_1 1 = some (int IntKind.i64 n_7) ∧
                                                                                              ∃ (a : Option Addr),
                                                                                                ∃ (n_8 : Nat),
                                                                                                  ∃ (m : Nat),
                                                                                                    Heap.cell h r_1 2 = some (slice a n_8 m) ∧
                                                                                                      CallA Try.prog fn_day_Phase [agg #[int IntKind.i64 n, int IntKind.i64 n_7, slice a n_8 m], int IntKind.i64 20] h
                                                                                                        fun (v : Value) (h : Heap) =>
                                                                                                        ∃ (n : Int),
                                                                                                          v = int IntKind.i64 n ∧
                                                                                                            Br (n == 2)
                                                                                                              (CallA Try.prog fn_day_May [int IntKind.i64 0, int IntKind.i64 1] h fun (v : Value) (h : Heap) =>
                                                                                                                ∃ (b : Bool),
                                                                                                                  v = Value.bool b ∧
                                                                                                                    Br b
                                                                                                                      (CallA Try.prog fn_day_May [int IntKind.i64 1, int IntKind.i64 1] h fun (v : Value) (h : Heap) =>
                                                                                                                        ∃ (b : Bool),
                                                                                                                          v = Value.bool b ∧
                                                                                                                            Br (!b)
                                                                                                                              (CallA Try.prog fn_day_May [int IntKind.i64 2, int IntKind.i64 9] h
                                                                                                                                fun (v : Value) (h : Heap) =>
                                                                                                                                ∃ (b : Bool),
                                                                                                                                  v = Value.bool b ∧
                                                                                                                                    Br b
                                                                                                                                      (CallA Try.prog fn_day_May [int IntKind.i64 2, int IntKind.i64 3] h
                                                                                                                                        fun (v : Value) (h : Heap) =>
                                                                                                                                        ∃ (b : Bool),
                                                                                                                                          v = Value.bool b ∧
                                                                                                                                            Br (!b)
                                                                                                                                              (∃ (n : Int),
                                                                                                                                                Heap.cell h r_1 0 = some (int IntKind.i64 n) ∧
                                                                                                                                                  ∃ (n_9 : Int),
                                                                                                                                                    Heap.cell h r_1 1 = some (int IntKind.i64 n_9) ∧
                                                                                                                                                      ∃ (a : Option Addr),
                                                                                                                                                        ∃ (n_10 : Nat),
                                                                                                                                                          ∃ (m : Nat),
                                                                                                                                                            Heap.cell h r_1 2 = some (slice a n_10 m) ∧
                                                                                                                                                              CallA Try.prog 20
                                                                                                                                                                [agg
                                                                                                                                                                    #[int IntKind.i64 n, int IntKind.i64 n_9,
                                                                                                                                                                      slice a n_10 m],
                                                                                                                                                                  int IntKind.i64 11, int IntKind.i64 12]
                                                                                                                                                                h fun (v : Value) (h : Heap) =>
                                                                                                                                                                ∃ (a : Option Addr),
                                                                                                                                                                  ∃ (n : Nat),
                                                                                                                                                                    ∃ (m : Nat),
                                                                                                                                                                      v = slice a n m ∧
                                                                                                                                                                        newB h [int IntKind.i64 12] 3
                                                                                                                                                                          fun (r : Nat) (h : Heap) =>
                                                                                                                                                                          CallA Try.prog 19
                                                                                                                                                                            [slice a n m,
                                                                                                                                                                              slice (some { block := r, off := 0 }) 1 1]
                                                                                                                                                                            h fun (v : Value) (h : Heap) =>
                                                                                                                                                                            ∃ (b : Bool),
                                                                                                                                                                              v = Value.bool b ∧ Ret h K (Value.bool b))
                                                                                                                                              (Ret h K (Value.bool false)))
                                                                                                                                      (Ret h K (Value.bool false)))
                                                                                                                              (Ret h K (Value.bool false)))
                                                                                                                      (Ret h K (Value.bool false)))
                                                                                                              (Ret h K (Value.bool false)))
                                                                                      (Ret h K (Value.bool false)))
                                                              (Ret h K (Value.bool false)))
                                      (Ret h K (Value.bool false)))
                              (Ret h K (Value.bool false))
theorem F_law18_awake (h : Heap) (K : Value → Heap → Prop) (k : F_law18_awakeT h K) : CallA Try.prog fn_law18_awake [] h K :=
  CallA.of_ev Try.func14 (by kernel_rfl) (fun _ _ => Try.call14 _ _) mixed (by kernel_rfl) (by kernel_rfl) k
def F_law18_DayTellsT (d_0 : Int) (d_1 : Int) (d_2 : Option Addr) (d_2n : Nat) (d_2c : Nat) (from' : Int) (to : Int) (phase : Int) (kind : Int) (h : Heap) (K : Value → Heap → Prop) : Prop :=
  newB h [int IntKind.i64 d_0, int IntKind.i64 d_1, slice d_2 d_2n d_2c] 24 fun (r : Nat) (h : Heap) =>
  CallA Try.prog fn_law18_awake [] h fun (v : Value) (h : Heap) =>
    ∃ (b : Bool),
      v = Value.bool b ∧
        Br (!b) (Ret h K (Value.bool false))
          (∃ (a : Option Addr),
            ∃ (n : Nat),
              ∃ (m : Nat),
                Heap.cell h r 2 = some (slice a n m) ∧
                  Br (decide ((↑n : Int) > 40)) (Ret h K (Value.bool true))
                    (∃ (n : Int),
                      Heap.cell h r 0 = some (int IntKind.i64 n) ∧
                        ∃ (n_1 : Int),
                          Heap.cell h r 1 = some (int IntKind.i64 n_1) ∧
                            ∃ (a : Option Addr),
                              ∃ (n_2 : Nat),
                                ∃ (m : Nat),
                                  Heap.cell h r 2 = some (slice a n_2 m) ∧
                                    ∃ (n_3 : Int),
                                      Heap.cell h r 0 = some (int IntKind.i64 n_3) ∧
                                        ∃ (n_4 : Int),
                                          Heap.cell h r 1 = some (int IntKind.i64 n_4) ∧
                                            ∃ (a_1 : Option Addr),
                                              ∃ (n_5 : Nat),
                                                ∃ (m_1 : Nat),
                                                  Heap.cell h r 2 = some (slice a_1 n_5 m_1) ∧
                                                    CallA Try.prog fn_day_Check [agg #[int IntKind.i64 n, int IntKind.i64 n_1, slice a n_2 m]] h fun (v : Value) (h_1 : Heap) =>
                                                      ∃ (n : Int),
                                                        v = int IntKind.i64 n ∧
                                                          Heap.le h h_1 ∧
                                                            CallA Try.prog fn_ref18_Check [agg #[int IntKind.i64 n_3, int IntKind.i64 n_4, slice a_1 n_5 m_1]] h_1 fun (v : Value) (h : Heap) =>
                                                              ∃ (n_6 : Int),
                                                                v = int IntKind.i64 n_6 ∧
                                                                  Heap.le h_1 h ∧
                                                                    Br (n != n_6) (Ret h K (Value.bool false))
                                                                      (CallA Try.prog fn_day_May [int IntKind.i64 phase, int IntKind.i64 kind] h fun (v : Value) (h_2 : Heap) =>
                                                                        ∃ (b : Bool),
                                                                          v = Value.bool b ∧
                                                                            Heap.le h h_2 ∧
                                                                              CallA Try.prog fn_ref18_May [int IntKind.i64 phase, int IntKind.i64 kind] h_2 fun (v : Value) (h : Heap) =>
                                                                                ∃ (b_1 : Bool),
                                                                                  v = Value.bool b_1 ∧
                                                                                    Heap.le h_2 h ∧
                                                                                      Br (!b == b_1) (Ret h K (Value.bool false))
                                                                                        (∃ (n : Int),
                                                                                          Heap.cell h r 0 = some (int IntKind.i64 n) ∧
                                                                                            ∃ (n_7 : Int),
                                                                                              Heap.cell h r 1 = some (int IntKind.i64 n_7) ∧
                                                                                                ∃ (a : Option Addr),
                                                                                                  ∃ (n_8 : Nat),
                                                                                                    ∃ (m : Nat),
                                                                                                      Heap.cell h r 2 = some (slice a n_8 m) ∧
                                                                                                        ∃ (n_9 : Int),
                                                                                                          Heap.cell h r 0 = some (int IntKind.i64 n_9) ∧
                                                                                                            ∃ (n_10 : Int),
                                                                                                              Heap.cell h r 1 = some (int IntKind.i64 n_10) ∧
                                                                                                                ∃ (a_2 : Option Addr),
                                                                                                                  ∃ (n_11 : Nat),
                                                                                                                    ∃ (m_2 : Nat),
                                                                                                                      Heap.cell h r 2 = some (slice a_2 n_11 m_2) ∧
                                                                                                                        CallA Try.prog 20
                                                                                                                          [agg #[int IntKind.i64 n, int IntKind.i64 n_7, slice a n_8 m], int IntKind.i64 from',
                                                                                                                            int IntKind.i64 to]
                                                                                                                          h fun (v : Value) (h_3 : Heap) =>
                                                                                                                          ∃ (a : Option Addr),
                                                                                                                            ∃ (n : Nat),
                                                                                                                              ∃ (m : Nat),
                                                                                                                                v = slice a n m ∧
                                                                                                                                  Heap.le h h_3 ∧
                                                                                                                                    CallA Try.prog 21
                                                                                                                                      [agg #[int IntKind.i64 n_9, int IntKind.i64 n_10, slice a_2 n_11 m_2],
                                                                                                                                        int IntKind.i64 from', int IntKind.i64 to]
                                                                                                                                      h_3 fun (v : Value) (h : Heap) =>
                                                                                                                                      ∃ (a_3 : Option Addr),
                                                                                                                                        ∃ (n_12 : Nat),
                                                                                                                                          ∃ (m_3 : Nat),
                                                                                                                                            v = slice a_3 n_12 m_3 ∧
                                                                                                                                              CallA Try.prog fn_ref11_Same [slice a n m, slice a_3 n_12 m_3] h
                                                                                                                                                fun (v : Value) (h : Heap) =>
                                                                                                                                                ∃ (b : Bool),
                                                                                                                                                  v = Value.bool b ∧
                                                                                                                                                    Br (!b) (Ret h K (Value.bool false))
                                                                                                                                                      (∃ (n : Int),
                                                                                                                                                        Heap.cell h r 0 = some (int IntKind.i64 n) ∧
                                                                                                                                                          ∃ (n_13 : Int),
                                                                                                                                                            Heap.cell h r 1 = some (int IntKind.i64 n_13) ∧
                                                                                                                                                              ∃ (a : Option Addr),
                                                                                                                                                                ∃ (n_14 : Nat),
                                                                                                                                                                  ∃ (m : Nat),
                                                                                                                                                                    Heap.cell h r 2 = some (slice a n_14 m) ∧
                                                                                                                                                                      CallA Try.prog 16
                                                                                                                                                                        [agg
                                                                                                                                                                            #[int IntKind.i64 n, int IntKind.i64 n_13,
                                                                                                                                                                              slice a n_14 m]]
                                                                                                                                                                        h fun (v : Value) (h_4 : Heap) =>
                                                                                                                                                                        ∃ (n : Int),
                                                                                                                                                                          v = int IntKind.i64 n ∧
                                                                                                                                                                            Heap.le h h_4 ∧
                                                                                                                                                                              Br (n != 0) (Ret h_4 K (Value.bool true))
                                                                                                                                                                                (∃ (n : Int),
                                                                                                                                                                                  Heap.cell h_4 r 0 =
                                                                                                                                                                                      some (int IntKind.i64 n) ∧
                                                                                                                                                                                    ∃ (n_15 : Int),
                                                                                                                                                                                      Heap.cell h_4 r 1 =
                                                                                                                                                                                          some (int IntKind.i64 n_15) ∧
                                                                                                                                                                                        ∃ (a : Option Addr),
                                                                                                                                                                                          ∃ (n_16 : Nat),
                                                                                                                                                                                            ∃ (m : Nat),
                                                                                                                                                                                              Heap.cell h_4 r 2 =
                                                                                                                                                                                                  some (slice a n_16 m) ∧
                                                                                                                                                                                                ∃ (n_17 : Int),
                                                                                                                                                                                                  Heap.cell h_4 r 0 =
                                                                                                                                                                                                      some
                                                                                                                                                                                                        (int IntKind.i64
                                                                                                                                                                                                          n_17) ∧
                                                                                                                                                                                                    ∃ (n_18 : Int),
                                                                                                                                                                                                      Heap.cell h_4 r 1 =
                                                                                                                                                                                                          some
                                                                                                                                                                                                            (int IntKind.i64
                                                                                                                                                                                                              n_18) ∧
                                                                                                                                                                                                        ∃ (a_4 :
                                                                                                                                                                                                          Option Addr),
                                                                                                                                                                                                          ∃ (n_19 : Nat),
                                                                                                                                                                                                            ∃ (m_4 : Nat),
                                                                                                                                                                                                              Heap.cell h_4
                                                                                                                                                                                                                    r 2 =
                                                                                                                                                                                                                  some
                                                                                                                                                                                                                    (slice
                                                                                                                                                                                                                      a_4
                                                                                                                                                                                                                      n_19
                                                                                                                                                                                                                      m_4) ∧
                                                                                                                                                                                                                CallA
                                                                                                                                                                                                                  Try.prog
                                                                                                                                                                                                                  22
                                                                                                                                                                                                                  [agg
                                                                                                                                                                                                                      #[int
                                                                                                                                                                                                                          IntKind.i64
                                                                                                                                                                                                                          n,
                                                                                                                                                                                                                        int
                                                                                                                                                                                                                          IntKind.i64
                                                                                                                                                                                                                          n_15,
                                                                                                                                                                                                                        slice
                                                                                                                                                                                                                          a
                                                                                                                                                                                                                          n_16
                                                                                                                                                                                                                          m],
                                                                                                                                                                                                                    int
                                                                                                                                                                                                                      IntKind.i64
                                                                                                                                                                                                                      from']
                                                                                                                                                                                                                  h_4
                                                                                                                                                                                                                  fun
                                                                                                                                                                                                                    (v :
                                                                                                                                                                                                                      Value)
                                                                                                                                                                                                                    (h :
                                                                                                                                                                                                                      Heap) =>
                                                                                                                                                                                                                  ∃ (n :
                                                                                                                                                                                                                    Int),
                                                                                                                                                                                                                    v =
                                                                                                                                                                                                                        int
                                                                                                                                                                                                                          IntKind.i64
                                                                                                                                                                                                                          n ∧
                                                                                                                                                                                                                      Heap.le
                                                                                                                                                                                                                          h_4
                                                                                                                                                                                                                          h ∧
                                                                                                                                                                                                                        CallA
                                                                                                                                                                                                                          Try.prog
                                                                                                                                                                                                                          23
                                                                                                                                                                                                                          [agg
                                                                                                                                                                                                                              #[int
                                                                                                                                                                                                                                  IntKind.i64
                                                                                                                                                                                                                                  n_17,
                                                                                                                                                                                                                                int
                                                                                                                                                                                                                                  IntKind.i64
                                                                                                                                                                                                                                  n_18,
                                                                                                                                                                                                                                slice
                                                                                                                                                                                                                                  a_4
                                                                                                                                                                                                                                  n_19
                                                                                                                                                                                                                                  m_4],
                                                                                                                                                                                                                            int
                                                                                                                                                                                                                              IntKind.i64
                                                                                                                                                                                                                              from']
                                                                                                                                                                                                                          h
                                                                                                                                                                                                                          fun
                                                                                                                                                                                                                            (v :
                                                                                                                                                                                                                              Value)
                                                                                                                                                                                                                            (h :
                                                                                                                                                                                                                              Heap) =>
                                                                                                                                                                                                                          ∃
                                                                                                                                                                                                                            (n_20
                                                                                                                                                                                                                            :
                                                                                                                                                                                                                            Int),
                                                                                                                                                                                                                            v =
                                                                                                                                                                                                                                int
                                                                                                                                                                                                                                  IntKind.i64
                                                                                                                                                                                                                                  n_20 ∧
                                                                                                                                                                                                                              Ret
                                                                                                                                                                                                                                h
                                                                                                                                                                                                                                K
                                                                                                                                                                                                                                (Value.bool
                                                                                                                                                                                                                                  (n ==
                                                                                                                                                                                                                                    n_20))))))))
theorem F_law18_DayTells (d_0 : Int) (d_1 : Int) (d_2 : Option Addr) (d_2n : Nat) (d_2c : Nat) (from' : Int) (to : Int) (phase : Int) (kind : Int) (h : Heap) (K : Value → Heap → Prop) (k : F_law18_DayTellsT d_0 d_1 d_2 d_2n d_2c from' to phase kind h K) : CallA Try.prog fn_law18_DayTells [agg #[int IntKind.i64 d_0, int IntKind.i64 d_1, slice d_2 d_2n d_2c], int IntKind.i64 from', int IntKind.i64 to, int IntKind.i64 phase, int IntKind.i64 kind] h K :=
  CallA.of_ev Try.func3 (by kernel_rfl) (fun _ _ => Try.call3 _ _) mixed (by kernel_rfl) (by kernel_rfl) k
def L_law18_DayOn_0 (kind : Int) (d : Nat) (now : Int) (phase : Int) (crossed : Option Addr) (crossedn : Nat) (crossedc : Nat) (t30 : Option Addr) (t30n : Nat) (t30c : Nat) (t31 : Int) (t32 : Int) (h : Heap) (K : Value → Heap → Prop) : Prop :=
  LoopAt Try.prog Try.f4 4 (loopK Try.f4 0) (sp 95 [(2, int IntKind.i64 kind), (3, pointer (some { block := d, off := 0 })), (7, int IntKind.i64 now), (8, int IntKind.i64 phase), (9, slice crossed crossedn crossedc), (30, slice t30 t30n t30c), (31, int IntKind.i64 t31),
  (32, int IntKind.i64 t32)]) h K
def L_law18_DayOn_0T (kind : Int) (d : Nat) (now : Int) (phase : Int) (crossed : Option Addr) (crossedn : Nat) (crossedc : Nat) (t30 : Option Addr) (t30n : Nat) (t30c : Nat) (t31 : Int) (t32 : Int) (h : Heap) (K : Value → Heap → Prop) : Prop :=
  Br (decide (t32 < t31))
  (0 ≤ t32 ∧
    t32 < (↑t30n : Int) ∧
      withAddr t30 fun (b o : Nat) =>
        ∃ (n : Int),
          Heap.cell h b (o + Int.toNat t32) = some (int IntKind.u16 n) ∧
            ∃ (n_1 : Int),
              Heap.cell h d 0 = some (int IntKind.i64 n_1) ∧
                ∃ (n_2 : Int),
                  Heap.cell h d 1 = some (int IntKind.i64 n_2) ∧
                    ∃ (a : Option Addr),
                      ∃ (n_3 : Nat),
                        ∃ (m : Nat),
                          Heap.cell h d 2 = some (slice a n_3 m) ∧
                            CallA Try.prog fn_day_Phase [agg #[int IntKind.i64 n_1, int IntKind.i64 n_2, slice a n_3 m], int IntKind.i64 (IntKind.wrap IntKind.i64 (now + IntKind.wrap IntKind.i64 n))] h
                              fun (v : Value) (h : Heap) =>
                              ∃ (n_4 : Int),
                                v = int IntKind.i64 n_4 ∧
                                  Br (decide (n_4 < phase)) (Ret h K (Value.bool false))
                                    (Br (decide (n_4 > 2)) (Ret h K (Value.bool false))
                                      (CallA Try.prog fn_day_May [int IntKind.i64 n_4, int IntKind.i64 kind] h fun (v : Value) (h : Heap) =>
                                        ∃ (b : Bool),
                                          v = Value.bool b ∧
                                            Br b
                                              (CallA Try.prog fn_day_May [int IntKind.i64 phase, int IntKind.i64 kind] h fun (v : Value) (h : Heap) =>
                                                ∃ (b : Bool),
                                                  v = Value.bool b ∧
                                                    Br (!b) (Ret h K (Value.bool false))
                                                      (∃ (n_5 : Int),
                                                        Heap.cell h d 0 = some (int IntKind.i64 n_5) ∧
                                                          ∃ (n_6 : Int),
                                                            Heap.cell h d 1 = some (int IntKind.i64 n_6) ∧
                                                              ∃ (a : Option Addr),
                                                                ∃ (n_7 : Nat),
                                                                  ∃ (m : Nat),
                                                                    Heap.cell h d 2 = some (slice a n_7 m) ∧
                                                                      CallA Try.prog 20
                                                                        [agg #[int IntKind.i64 n_5, int IntKind.i64 n_6, slice a n_7 m], int IntKind.i64 now,
                                                                          int IntKind.i64 (IntKind.wrap IntKind.i64 (now + IntKind.wrap IntKind.i64 n))]
                                                                        h fun (v : Value) (h : Heap) =>
                                                                        ∃ (a : Option Addr),
                                                                          ∃ (n_8 : Nat),
                                                                            ∃ (m : Nat),
                                                                              v = slice a n_8 m ∧
                                                                                AppA [int IntKind.i64 0] 3 h crossed crossedn crossedc n_8 a fun (ap : Option Addr) (cp : Nat) (h : Heap) =>
                                                                                  L_law18_DayOn_0 kind d (IntKind.wrap IntKind.i64 (now + IntKind.wrap IntKind.i64 n)) n_4 ap (crossedn + n_8) cp t30 t30n t30c t31
                                                                                    (IntKind.wrap IntKind.i64 (t32 + 1)) h K))
                                              (∃ (n_5 : Int),
                                                Heap.cell h d 0 = some (int IntKind.i64 n_5) ∧
                                                  ∃ (n_6 : Int),
                                                    Heap.cell h d 1 = some (int IntKind.i64 n_6) ∧
                                                      ∃ (a : Option Addr),
                                                        ∃ (n_7 : Nat),
                                                          ∃ (m : Nat),
                                                            Heap.cell h d 2 = some (slice a n_7 m) ∧
                                                              CallA Try.prog 20
                                                                [agg #[int IntKind.i64 n_5, int IntKind.i64 n_6, slice a n_7 m], int IntKind.i64 now,
                                                                  int IntKind.i64 (IntKind.wrap IntKind.i64 (now + IntKind.wrap IntKind.i64 n))]
                                                                h fun (v : Value) (h : Heap) =>
                                                                ∃ (a : Option Addr),
                                                                  ∃ (n_8 : Nat),
                                                                    ∃ (m : Nat),
                                                                      v = slice a n_8 m ∧
                                                                        AppA [int IntKind.i64 0] 3 h crossed crossedn crossedc n_8 a fun (ap : Option Addr) (cp : Nat) (h : Heap) =>
                                                                          L_law18_DayOn_0 kind d (IntKind.wrap IntKind.i64 (now + IntKind.wrap IntKind.i64 n)) n_4 ap (crossedn + n_8) cp t30 t30n t30c t31
                                                                            (IntKind.wrap IntKind.i64 (t32 + 1)) h K))))
  (∃ (n : Int),
    Heap.cell h d 0 = some (int IntKind.i64 n) ∧
      ∃ (n_1 : Int),
        Heap.cell h d 1 = some (int IntKind.i64 n_1) ∧
          ∃ (a : Option Addr),
            ∃ (n_2 : Nat),
              ∃ (m : Nat),
                Heap.cell h d 2 = some (slice a n_2 m) ∧
                  ∃ (n_3 : Int),
                    Heap.cell h d 1 = some (int IntKind.i64 n_3) ∧
                      CallA Try.prog fn_day_Crossed [agg #[int IntKind.i64 n, int IntKind.i64 n_1, slice a n_2 m], int IntKind.i64 now, int IntKind.i64 n_3] h fun (v : Value) (h : Heap) =>
                        ∃ (a : Option Addr),
                          ∃ (n : Nat),
                            ∃ (m : Nat),
                              v = slice a n m ∧
                                AppA [int IntKind.i64 0] 3 h crossed crossedn crossedc n a fun (ap : Option Addr) (cp : Nat) (h : Heap) =>
                                  ∃ (a : Option Addr),
                                    ∃ (n_4 : Nat),
                                      ∃ (m : Nat),
                                        Heap.cell h d 2 = some (slice a n_4 m) ∧
                                          CallA Try.prog fn_ref11_Same [slice ap (crossedn + n) cp, slice a n_4 m] h fun (v : Value) (h : Heap) =>
                                            ∃ (b : Bool),
                                              v = Value.bool b ∧
                                                Br b
                                                  (∃ (n : Int),
                                                    Heap.cell h d 0 = some (int IntKind.i64 n) ∧
                                                      ∃ (n_5 : Int),
                                                        Heap.cell h d 1 = some (int IntKind.i64 n_5) ∧
                                                          ∃ (a : Option Addr),
                                                            ∃ (n_6 : Nat),
                                                              ∃ (m : Nat),
                                                                Heap.cell h d 2 = some (slice a n_6 m) ∧
                                                                  ∃ (n_7 : Int),
                                                                    Heap.cell h d 1 = some (int IntKind.i64 n_7) ∧
                                                                      CallA Try.prog fn_day_Phase [agg #[int IntKind.i64 n, int IntKind.i64 n_5, slice a n_6 m], int IntKind.i64 n_7] h fun (v : Value) (h : Heap) =>
                                                                        ∃ (n : Int),
                                                                          v = int IntKind.i64 n ∧
                                                                            Br (n == 2)
                                                                              (∃ (n : Int),
                                                                                Heap.cell h d 0 = some (int IntKind.i64 n) ∧
                                                                                  ∃ (n_8 : Int),
                                                                                    Heap.cell h d 1 = some (int IntKind.i64 n_8) ∧
                                                                                      ∃ (a : Option Addr),
                                                                                        ∃ (n_9 : Nat),
                                                                                          ∃ (m : Nat),
                                                                                            Heap.cell h d 2 = some (slice a n_9 m) ∧
                                                                                              ∃ (n_10 : Int),
                                                                                                Heap.cell h d 0 = some (int IntKind.i64 n_10) ∧
                                                                                                  CallA Try.prog fn_day_Phase [agg #[int IntKind.i64 n, int IntKind.i64 n_8, slice a n_9 m], int IntKind.i64 n_10] h
                                                                                                    fun (v : Value) (h : Heap) => ∃ (n : Int), v = int IntKind.i64 n ∧ Ret h K (Value.bool (n == 1)))
                                                                              (Ret h K (Value.bool false)))
                                                  (Ret h K (Value.bool false)))
theorem L_law18_DayOn_0r (kind : Int) (d : Nat) (now : Int) (phase : Int) (crossed : Option Addr) (crossedn : Nat) (crossedc : Nat) (t30 : Option Addr) (t30n : Nat) (t30c : Nat) (t31 : Int) (t32 : Int) (h : Heap) (K : Value → Heap → Prop) (k : L_law18_DayOn_0T kind d now phase crossed crossedn crossedc t30 t30n t30c t31 t32 h K) : L_law18_DayOn_0 kind d now phase crossed crossedn crossedc t30 t30n t30c t31 t32 h K :=
  LoopAt.of_ev Try.func4 mixed (fun junk => by kernel_rfl) k
def F_law18_DayOnT (d_0 : Int) (d_1 : Int) (d_2 : Option Addr) (d_2n : Nat) (d_2c : Nat) (steps : Option Addr) (stepsn : Nat) (stepsc : Nat) (kind : Int) (h : Heap) (K : Value → Heap → Prop) : Prop :=
  newB h [int IntKind.i64 d_0, int IntKind.i64 d_1, slice d_2 d_2n d_2c] 24 fun (r : Nat) (h : Heap) =>
  CallA Try.prog fn_law18_awake [] h fun (v : Value) (h : Heap) =>
    ∃ (b : Bool),
      v = Value.bool b ∧
        Br (!b) (Ret h K (Value.bool false))
          (∃ (a : Option Addr),
            ∃ (n : Nat),
              ∃ (m : Nat),
                Heap.cell h r 2 = some (slice a n m) ∧
                  Br (decide ((↑n : Int) > 40)) (Ret h K (Value.bool true))
                    (Br (decide ((↑stepsn : Int) > 40)) (Ret h K (Value.bool true))
                      (∃ (n : Int),
                        Heap.cell h r 0 = some (int IntKind.i64 n) ∧
                          ∃ (n_1 : Int),
                            Heap.cell h r 1 = some (int IntKind.i64 n_1) ∧
                              ∃ (a : Option Addr),
                                ∃ (n_2 : Nat),
                                  ∃ (m : Nat),
                                    Heap.cell h r 2 = some (slice a n_2 m) ∧
                                      CallA Try.prog fn_day_Check [agg #[int IntKind.i64 n, int IntKind.i64 n_1, slice a n_2 m]] h fun (v : Value) (h : Heap) =>
                                        ∃ (n : Int), v = int IntKind.i64 n ∧ Br (n != 0) (Ret h K (Value.bool true)) (L_law18_DayOn_0 kind r (-1) 0 none 0 0 steps stepsn stepsc (↑stepsn : Int) 0 h K))))
theorem F_law18_DayOn (d_0 : Int) (d_1 : Int) (d_2 : Option Addr) (d_2n : Nat) (d_2c : Nat) (steps : Option Addr) (stepsn : Nat) (stepsc : Nat) (kind : Int) (h : Heap) (K : Value → Heap → Prop) (k : F_law18_DayOnT d_0 d_1 d_2 d_2n d_2c steps stepsn stepsc kind h K) : CallA Try.prog fn_law18_DayOn [agg #[int IntKind.i64 d_0, int IntKind.i64 d_1, slice d_2 d_2n d_2c], slice steps stepsn stepsc, int IntKind.i64 kind] h K :=
  CallA.of_ev Try.func4 (by kernel_rfl) (fun _ _ => Try.call4 _ _) mixed (by kernel_rfl) (by kernel_rfl) k
end Go.Proofs.Ythojacmegofhcaa
