import Derived.Test.YtghdadniddoboaaM11
import Derived.Test.YtghdadniddoboaaM10
import Derived.Test.YtghdadniddoboaaM04
import Derived.Test.YtghdadniddoboaaM07
import Derived.Test.YtghdadniddoboaaM02
import Derived.Test.YtghdadniddoboaaM08
import Derived.Test.YtghdadniddoboaaM05
/- Worths in the program: sums of what is told, what a balance is worth, and an account. -/
namespace Go.Proofs.Ytghdadniddoboaa
open Go Go.Sy Go.Value
set_option linter.unusedVariables false
set_option linter.unusedSimpArgs false

def tdV1 (x : Td) : List Value := [.int .i64 x.1, .int .i64 x.2]
theorem tdV1_len (x : Td) : (tdV1 x).length = 2 := rfl
abbrev Tds (h : Heap) (p : Option Addr) (l : List Td) := Arr tdV1 h p l
theorem tx {h : Heap} {p : Option Addr} {l : List Td} {N : Nat} (C : Tds h p l) (hn : l.length = N) {j : Nat} {i : Int} (hi : i = (j : Int)) {x : Td} (hx : l[j]? = some x) {Q : Int → Int → Prop} (kk : Q x.1 x.2) :
    0 ≤ i ∧ i < (N : Int) ∧ withAddr p fun b o => ∃ n, h.cell b (o + i.toNat * 2) = some (.int .i64 n) ∧ ∃ n1, h.cell b (o + i.toNat * 2 + 1) = some (.int .i64 n1) ∧ Q n n1 := by
  subst hi
  exact ax (w := 2) tdV1_len C hn rfl hx (by decide) fun b o _ g => ⟨_, g 0 (by decide), _, g 1 (by decide), kk⟩
theorem fit_03 (x : Int) : (fit x).2 = 0 ∨ (fit x).2 = 3 := by unfold fit; split <;> simp
section
variable {h0 h : Heap} {K : Value → Heap → Prop} {p : Option Addr} {l : List Td} {n c : Nat}
theorem wchain_loop (C : Tds h0 p l) (hn : l.length = n) (hs : n ≤ 1000000) (hI : ∀ x ∈ l, I64 x.1) (k : ∀ h', h0.le h' → K (agg #[.int .i64 (chainT 0 l).1, .int .i64 (chainT 0 l).2]) h') {t2 sum : Nat} (ne : t2 ≠ sum) (z1 : h0 t2 = none) (z2 : h0 sum = none) :
    ∀ (m j : Nat) (h : Heap) (s : Int), m + j = n → h0.le h → At h t2 [.int .i64 0, .int .i64 0] → At h sum [.int .i64 s, .int .i64 0] → I64 s → chainT s (l.drop j) = chainT 0 l → L_worth_chain_0 t2 sum p n c (n : Int) (j : Int) h K := by
  intro m
  induction m with
  | zero =>
    intro j h s hj lh A2 As hsI e
    refine L_worth_chain_0r _ _ _ _ _ _ _ _ _ ?_
    unfold L_worth_chain_0T
    rw [List.drop_eq_nil_of_le (by omega), chainT] at e
    rw [← e] at k
    exact Br.no (by simp; omega) ⟨_, As.cell rfl, _, As.cell rfl, A2.canSt (by decide), _, (A2.set (o := 0) (ws := [.int .i64 s, .int .i64 0])).cell rfl, _, (A2.set (o := 0) (ws := [.int .i64 s, .int .i64 0])).cell rfl, Ret.mk (k _ (le_setN lh z1))⟩
  | succ m ih =>
    intro j h s hj lh A2 As hsI e
    refine L_worth_chain_0r _ _ _ _ _ _ _ _ _ ?_
    unfold L_worth_chain_0T
    have hx : l[j]? = some l[j] := List.getElem?_eq_getElem (by omega)
    have hm : l[j] ∈ l := List.getElem_mem _
    rw [List.drop_eq_getElem_cons (by omega : j < l.length), chainT] at e
    generalize l[j] = x at *
    refine Br.yes (by simp; omega) (tx (C.le lh) hn rfl hx (newB_cp (vs := [.int .i64 x.1, .int .i64 x.2]) rfl fun r h1 hr l1 Ar cs => ⟨cs, _, Ar.cell rfl, ?_⟩))
    have n2 := A2.ne hr
    have ns := As.ne hr
    have B2 := A2.le l1
    have Bs := As.le l1
    have lh1 := Heap.le_trans lh l1
    generalize h1.setN r 0 [.int .i64 x.1, .int .i64 x.2] = H at *
    by_cases e0 : x.2 ≠ 0
    · rw [if_pos e0] at e
      rw [← e] at k
      exact Br.yes (by simpa using e0) ⟨B2.canSt (by decide), _, (B2.set (o := 0) (ws := [.int .i64 0, .int .i64 3])).cell rfl, _, (B2.set (o := 0) (ws := [.int .i64 0, .int .i64 3])).cell rfl, Ret.mk (k _ (le_setN lh1 z1))⟩
    rw [if_neg e0] at e
    refine Br.no (by simpa using e0) ⟨_, Bs.cell rfl, _, Ar.cell rfl, S_Add hsI (hI x hm) _ _ ⟨_, _, rfl, ?_⟩⟩
    by_cases e1 : (fit (s + x.1)).2 ≠ 0
    · rw [if_pos e1] at e
      rw [← e] at k
      have e3 : (fit (s + x.1)).2 = 3 := (fit_03 _).resolve_left e1
      rw [e3]
      exact Br.yes rfl ⟨B2.canSt (by decide), _, (B2.set (o := 0) (ws := [.int .i64 0, .int .i64 3])).cell rfl, _, (B2.set (o := 0) (ws := [.int .i64 0, .int .i64 3])).cell rfl, Ret.mk (k _ (le_setN lh1 z1))⟩
    · rw [if_neg e1] at e
      have hI1 := fit_in e1
      rw [fit_ok hI1]
      refine Br.no rfl ⟨Bs.canSt (by simp), ?_⟩
      rw [w1 (by omega)]
      exact ih (j + 1) _ (s + x.1) (by omega) (le_setN lh1 z2) (B2.set_ne ne) (Bs.set (o := 0) (ws := [.int .i64 (s + x.1)])) hI1 e
theorem S_chain (C : Tds h p l) (hn : l.length = n) (hs : n ≤ 1000000) (hI : ∀ x ∈ l, I64 x.1) (k : ∀ h', h.le h' → K (agg #[.int .i64 (chainT 0 l).1, .int .i64 (chainT 0 l).2]) h') : CallA Try.prog fn_worth_chain [slice p n c] h K := by
  refine F_worth_chain _ _ _ _ _ ?_
  unfold F_worth_chainT
  exact newB_at fun r h1 hr l1 A1 => newB_at fun r1 h2 hr1 l2 A2 => wchain_loop C hn hs hI k (A1.ne hr1) hr (none_of_le l1 hr1) n 0 h2 0 rfl (Heap.le_trans l1 l2) (A1.le l2) A2 I64_0 rfl
end
section
variable {h0 h : Heap} {K : Value → Heap → Prop} {w : Nat} {T : List Cur} {a : Option Addr} {n c : Nat} {ws : List Value}
theorem S_Wone (C : Curs h a T) (hn : T.length = n) (ok : T.all inbB = true) (Aw : At h w (.slice a n c :: ws)) {cur : Nat} {bal : Int} {ci : Int} (hc : ci = (cur : Int)) (hb : I64 bal)
    (k : ∀ h', h.le h' → K (tuple #[agg #[.int .i64 (toldW T cur bal).1, .int .i64 (toldW T cur bal).2], agg #[.int .i64 (toldS T cur bal).1, .int .i64 (toldS T cur bal).2]]) h') :
    CallA Try.prog fn_pworth_Worths_one [pointer (some ⟨w, 0, none⟩), int .i64 ci, int .i64 bal] h K := by
  subst hc
  refine F_pworth_Worths_one _ _ _ _ _ ?_
  unfold F_pworth_Worths_oneT
  refine newB_at fun r h1 hr l1 A1 => newB_at fun r1 h2 hr1 l2 A2 => ?_
  have l12 := Heap.le_trans l1 l2
  have z1 := none_of_le l1 hr1
  have ne := A1.ne hr1
  have nw := Aw.ne hr
  have nw1 := Aw.ne z1
  have Aw2 := Aw.le l12
  have C2 := C.le l12
  refine withAddr_intro rfl ⟨_, _, _, Aw2.cell rfl, S_Worth C2 hn ok hb ⟨_, _, rfl, (A1.le l2).canSt (by decide), ?_⟩⟩
  have B1 : At (h2.setN r 0 [.int .i64 (worthR T (cur : Int) bal).1, .int .i64 (worthR T (cur : Int) bal).2]) r [.int .i64 (worthR T (cur : Int) bal).1, .int .i64 (worthR T (cur : Int) bal).2] := (A1.le l2).set (o := 0) (ws := [.int .i64 (worthR T (cur : Int) bal).1, .int .i64 (worthR T (cur : Int) bal).2])
  have B2 := A2.set_ne (o := 0) (ws := [.int .i64 (worthR T (cur : Int) bal).1, .int .i64 (worthR T (cur : Int) bal).2]) (b' := r) (fun e => ne e.symm)
  have l3 : h.le (h2.setN r 0 [.int .i64 (worthR T (cur : Int) bal).1, .int .i64 (worthR T (cur : Int) bal).2]) := le_setN l12 hr
  have fin : ∀ (h4 : Heap) (a1 a2 b1 b2 : Int), h.le h4 → At h4 r [.int .i64 a1, .int .i64 a2] → At h4 r1 [.int .i64 b1, .int .i64 b2] → At (h4.setN r 0 [.int .i64 a1, .int .i64 a2]) r1 [.int .i64 b1, .int .i64 b2] ∧ At ((h4.setN r 0 [.int .i64 a1, .int .i64 a2]).setN r1 0 [.int .i64 b1, .int .i64 b2]) r [.int .i64 a1, .int .i64 a2] ∧ At ((h4.setN r 0 [.int .i64 a1, .int .i64 a2]).setN r1 0 [.int .i64 b1, .int .i64 b2]) r1 [.int .i64 b1, .int .i64 b2] ∧ h.le ((h4.setN r 0 [.int .i64 a1, .int .i64 a2]).setN r1 0 [.int .i64 b1, .int .i64 b2]) ∧ Keeps [r1] h4 (h4.setN r 0 [.int .i64 a1, .int .i64 a2]) :=
    fun h4 a1 a2 b1 b2 lh X Y => by
      have Y1 := Y.set_ne (o := 0) (ws := [.int .i64 a1, .int .i64 a2]) (b' := r) (fun e => ne e.symm)
      have X1 : At _ r [.int .i64 a1, .int .i64 a2] := X.set (o := 0) (ws := [.int .i64 a1, .int .i64 a2])
      refine ⟨Y1, X1.set_ne ne, Y1.set (o := 0) (ws := [.int .i64 b1, .int .i64 b2]), le_setN (le_setN lh hr) z1, fun b hb x hx => ?_⟩
      rw [List.mem_singleton] at hb
      subst hb
      rw [setN_other (fun e => ne e.symm)]; exact hx
  generalize h2.setN r 0 [.int .i64 (worthR T (cur : Int) bal).1, .int .i64 (worthR T (cur : Int) bal).2] = h3 at *
  unfold toldW toldS at k
  refine Br.dec (fun g => ?_) fun g => ?_
  · rw [if_pos g] at k
    refine withAddr_intro rfl ⟨_, _, _, (Aw.le l3).cell rfl, S_Plain (C.le l3) hn ok hb ⟨_, _, rfl, S_Sub I64_0 (plainR_I _ _ _) _ _ ⟨_, _, rfl, B2.canSt (by decide), ?_⟩⟩⟩
    have hif : (if (fit (0 - (plainR T (cur : Int) bal).1)).2 > (plainR T (cur : Int) bal).2 then (fit (0 - (plainR T (cur : Int) bal).1)).2 else (plainR T (cur : Int) bal).2) = (if (plainR T (cur : Int) bal).2 < (fit (0 - (plainR T (cur : Int) bal).1)).2 then (fit (0 - (plainR T (cur : Int) bal).1)).2 else (plainR T (cur : Int) bal).2) := rfl
    rw [hif]
    dsimp only at k
    generalize (if (plainR T (cur : Int) bal).2 < (fit (0 - (plainR T (cur : Int) bal).1)).2 then (fit (0 - (plainR T (cur : Int) bal).1)).2 else (plainR T (cur : Int) bal).2) = e2 at *
    generalize (fit (0 - (plainR T (cur : Int) bal).1)).1 = s2 at *
    have D1 := B1.set_ne (o := 0) (ws := [.int .i64 s2, .int .i64 e2]) ne
    have D2 : At _ r1 [.int .i64 s2, .int .i64 e2] := B2.set (o := 0) (ws := [.int .i64 s2, .int .i64 e2])
    obtain ⟨f1, f2, f3, f4, f5⟩ := fin _ _ _ _ _ (le_setN l3 z1) D1 D2
    exact ⟨_, D1.cell rfl, _, D1.cell rfl, _, D2.cell rfl, _, D2.cell rfl, D1.canSt (by simp), .inr f5, f1.canSt (by simp), _, f2.cell rfl, _, f2.cell rfl, _, f3.cell rfl, _, f3.cell rfl, Ret.mk (k _ f4)⟩
  · rw [if_neg g] at k
    obtain ⟨f1, f2, f3, f4, f5⟩ := fin _ _ _ _ _ l3 B1 B2
    exact ⟨_, B1.cell rfl, _, B1.cell rfl, _, B2.cell rfl, _, B2.cell rfl, B1.canSt (by simp), .inr f5, f1.canSt (by simp), _, f2.cell rfl, _, f2.cell rfl, _, f3.cell rfl, _, f3.cell rfl, Ret.mk (k _ f4)⟩
/-- an account that is being reckoned -/
structure AcI (h0 h : Heap) (t4 b : Nat) (p q1 q2 : Option Addr) (n cp c1 c2 j : Nat) (l1 l2 : List Td) : Prop where
  base : h0.le h
  z4 : h0 t4 = none
  zb : h0 b = none
  ne : t4 ≠ b
  a4 : At h t4 [slice none 0 0, slice none 0 0, slice none 0 0, int .i64 0, int .i64 0, int .i64 0, int .i64 0]
  ab : At h b [slice p n cp, slice q1 j c1, slice q2 j c2, int .i64 0, int .i64 0, int .i64 0, int .i64 0]
  o1 : OwnL h0 h [int .i64 0, int .i64 0] q1 c1 (l1.flatMap tdV1)
  o2 : OwnL h0 h [int .i64 0, int .i64 0] q2 c2 (l2.flatMap tdV1)
  n14 : q1 ≠ some ⟨t4, 0, none⟩
  n1b : q1 ≠ some ⟨b, 0, none⟩
  n24 : q2 ≠ some ⟨t4, 0, none⟩
  n2b : q2 ≠ some ⟨b, 0, none⟩
  n12 : ∀ x, q1 = some ⟨x, 0, none⟩ → q2 ≠ some ⟨x, 0, none⟩
theorem wtake_snoc {row : List Int} {j : Nat} (h : j < row.length) : row.take (j + 1) = row.take j ++ [row[j]] := by rw [List.take_add_one, List.getElem?_eq_getElem h]; rfl
theorem acc_loop {p : Option Addr} {row : List Int} {rn cp : Nat} (C : Curs h0 a T) (hn : T.length = n) (ok : T.all inbB = true) (Aw : At h0 w (.slice a n c :: ws)) (I : Ints .i64 h0 p row) (hr : row.length = rn) (hs : rn ≤ 1000000) (hI : ∀ x ∈ row, I64 x)
    (k : ∀ h' q1 q2 c1 c2, h0.le h' → OwnL h0 h' [int .i64 0, int .i64 0] q1 c1 ((rowF (toldW T) 0 row).flatMap tdV1) → OwnL h0 h' [int .i64 0, int .i64 0] q2 c2 ((rowF (toldS T) 0 row).flatMap tdV1) → (∀ x, q1 = some ⟨x, 0, none⟩ → q2 ≠ some ⟨x, 0, none⟩) →
      K (agg #[slice p rn cp, slice q1 rn c1, slice q2 rn c2, int .i64 (netW T row).1, int .i64 (netW T row).2, int .i64 (shW T row).1, int .i64 (shW T row).2]) h') {t4 b : Nat} :
    ∀ (m j : Nat) (h : Heap) (q1 q2 : Option Addr) (c1 c2 : Nat), m + j = rn → AcI h0 h t4 b p q1 q2 rn cp c1 c2 j (rowF (toldW T) 0 (row.take j)) (rowF (toldS T) 0 (row.take j)) → L_pworth_Worths_account_0 (some ⟨w, 0, none⟩) t4 b p rn cp (rn : Int) (j : Int) h K := by
  intro m
  induction m with
  | zero =>
    intro j h q1 q2 c1 c2 hj I
    refine L_pworth_Worths_account_0r _ _ _ _ _ _ _ _ _ _ ?_
    unfold L_pworth_Worths_account_0T
    obtain rfl : j = rn := by omega
    rw [List.take_of_length_le (by omega)] at I
    have hw1 : (rowF (toldW T) 0 row).length = j := by rw [rowF_len]; exact hr
    have hw2 : (rowF (toldS T) 0 row).length = j := by rw [rowF_len]; exact hr
    have i1 : ∀ x ∈ rowF (toldW T) 0 row, I64 x.1 := fun x hx => by
      obtain ⟨i, hi, e⟩ := List.mem_iff_getElem.1 hx
      have := rowF_get (toldW T) row 0 i (by rw [rowF_len] at hi; exact hi)
      rw [List.getElem?_eq_getElem hi, e] at this
      cases this
      exact worthR_I _ _ _
    have i2 : ∀ x ∈ rowF (toldS T) 0 row, I64 x.1 := fun x hx => by
      obtain ⟨i, hi, e⟩ := List.mem_iff_getElem.1 hx
      have := rowF_get (toldS T) row 0 i (by rw [rowF_len] at hi; exact hi)
      rw [List.getElem?_eq_getElem hi, e] at this
      cases this
      exact toldS_I _ _ _
    refine Br.no (by simp) ⟨_, _, _, I.ab.cell rfl, _, _, _, I.ab.cell rfl, S_chain (l := rowF (toldW T) 0 row) I.o1.rd hw1 hs i1 fun h1 l1 => ⟨_, _, rfl, .inl l1, S_chain (l := rowF (toldS T) 0 row) (I.o2.le l1).rd hw2 hs i2 fun h2 l2 => ⟨_, _, rfl, ?_⟩⟩⟩
    have l12 := Heap.le_trans l1 l2
    have Ab := I.ab.le l12
    have A4 := I.a4.le l12
    have O1 := I.o1.le l12
    have O2 := I.o2.le l12
    have lb := Heap.le_trans I.base l12
    have ne4 := I.ne
    have zb := I.zb
    have z4 := I.z4
    have n1b := I.n1b
    have n2b := I.n2b
    have n14 := I.n14
    have n24 := I.n24
    have n12 := I.n12
    have Ab1 : At _ b [slice p j cp, slice q1 j c1, slice q2 j c2, int .i64 (chainT 0 (rowF (toldW T) 0 row)).1, int .i64 (chainT 0 (rowF (toldW T) 0 row)).2, int .i64 0, int .i64 0] := Ab.set (o := 3) (ws := [int .i64 (chainT 0 (rowF (toldW T) 0 row)).1, int .i64 (chainT 0 (rowF (toldW T) 0 row)).2])
    have Ab2 : At _ b [slice p j cp, slice q1 j c1, slice q2 j c2, int .i64 (chainT 0 (rowF (toldW T) 0 row)).1, int .i64 (chainT 0 (rowF (toldW T) 0 row)).2, int .i64 (chainT 0 (rowF (toldS T) 0 row)).1, int .i64 (chainT 0 (rowF (toldS T) 0 row)).2] := Ab1.set (o := 5) (ws := [int .i64 (chainT 0 (rowF (toldS T) 0 row)).1, int .i64 (chainT 0 (rowF (toldS T) 0 row)).2])
    have B4 := (A4.set_ne (o := 3) (ws := [int .i64 (chainT 0 (rowF (toldW T) 0 row)).1, int .i64 (chainT 0 (rowF (toldW T) 0 row)).2]) ne4).set_ne (o := 5) (ws := [int .i64 (chainT 0 (rowF (toldS T) 0 row)).1, int .i64 (chainT 0 (rowF (toldS T) 0 row)).2]) ne4
    have O1' := (O1.set_ne (o := 3) (ws := [int .i64 (chainT 0 (rowF (toldW T) 0 row)).1, int .i64 (chainT 0 (rowF (toldW T) 0 row)).2]) n1b).set_ne (o := 5) (ws := [int .i64 (chainT 0 (rowF (toldS T) 0 row)).1, int .i64 (chainT 0 (rowF (toldS T) 0 row)).2]) n1b
    have O2' := (O2.set_ne (o := 3) (ws := [int .i64 (chainT 0 (rowF (toldW T) 0 row)).1, int .i64 (chainT 0 (rowF (toldW T) 0 row)).2]) n2b).set_ne (o := 5) (ws := [int .i64 (chainT 0 (rowF (toldS T) 0 row)).1, int .i64 (chainT 0 (rowF (toldS T) 0 row)).2]) n2b
    have l9 := le_setN (o := 5) (ws := [int .i64 (chainT 0 (rowF (toldS T) 0 row)).1, int .i64 (chainT 0 (rowF (toldS T) 0 row)).2]) (le_setN (o := 3) (ws := [int .i64 (chainT 0 (rowF (toldW T) 0 row)).1, int .i64 (chainT 0 (rowF (toldW T) 0 row)).2]) lb zb) zb
    unfold netW shW at k
    refine ⟨Ab.canSt (by simp), Ab1.canSt (by simp), ?_⟩
    generalize (h2.setN b 3 [int .i64 (chainT 0 (rowF (toldW T) 0 row)).1, int .i64 (chainT 0 (rowF (toldW T) 0 row)).2]).setN b 5 [int .i64 (chainT 0 (rowF (toldS T) 0 row)).1, int .i64 (chainT 0 (rowF (toldS T) 0 row)).2] = H at *
    generalize chainT 0 (rowF (toldW T) 0 row) = x1 at *
    generalize chainT 0 (rowF (toldS T) 0 row) = x2 at *
    have B5 : At _ t4 [slice p j cp, slice q1 j c1, slice q2 j c2, int .i64 x1.1, int .i64 x1.2, int .i64 x2.1, int .i64 x2.2] := B4.set (o := 0) (ws := [slice p j cp, slice q1 j c1, slice q2 j c2, int .i64 x1.1, int .i64 x1.2, int .i64 x2.1, int .i64 x2.2])
    exact ⟨_, _, _, Ab2.cell rfl, _, _, _, Ab2.cell rfl, _, _, _, Ab2.cell rfl, _, Ab2.cell rfl, _, Ab2.cell rfl, _, Ab2.cell rfl, _, Ab2.cell rfl, B4.canSt (by simp), _, _, _, B5.cell rfl, _, _, _, B5.cell rfl, _, _, _, B5.cell rfl, _, B5.cell rfl, _, B5.cell rfl, _, B5.cell rfl, _, B5.cell rfl,
      Ret.mk (k _ q1 q2 c1 c2 (le_setN l9 z4) (O1'.set_ne n14) (O2'.set_ne n24) n12)⟩
  | succ m ih =>
    intro j h q1 q2 c1 c2 hj J
    refine L_pworth_Worths_account_0r _ _ _ _ _ _ _ _ _ _ ?_
    unfold L_pworth_Worths_account_0T
    have hjr : j < row.length := by omega
    have hx : row[j]? = some row[j] := List.getElem?_eq_getElem hjr
    have hm : row[j] ∈ row := List.getElem_mem _
    have e1 : (rowF (toldW T) 0 (row.take (j + 1))).flatMap tdV1 = (rowF (toldW T) 0 (row.take j)).flatMap tdV1 ++ tdV1 (toldW T j row[j]) := by
      rw [wtake_snoc hjr, rowF_snoc, List.flatMap_append, List.length_take, Nat.min_eq_left (by omega), Nat.zero_add]; simp
    have e2 : (rowF (toldS T) 0 (row.take (j + 1))).flatMap tdV1 = (rowF (toldS T) 0 (row.take j)).flatMap tdV1 ++ tdV1 (toldS T j row[j]) := by
      rw [wtake_snoc hjr, rowF_snoc, List.flatMap_append, List.length_take, Nat.min_eq_left (by omega), Nat.zero_add]; simp
    have f1 : ((rowF (toldW T) 0 (row.take j)).flatMap tdV1).length = j * 2 := by rw [arr_len tdV1_len, rowF_len, List.length_take, Nat.min_eq_left (by omega)]
    have f2 : ((rowF (toldS T) 0 (row.take j)).flatMap tdV1).length = j * 2 := by rw [arr_len tdV1_len, rowF_len, List.length_take, Nat.min_eq_left (by omega)]
    generalize row[j] = bal at *
    refine Br.yes (by simp; omega) (ix (I.le J.base) hr rfl hx (S_Wone (cur := j) (C.le J.base) hn ok (Aw.le J.base) rfl (hI _ hm) fun h1 l1 => ⟨_, _, _, _, rfl, newB_at fun r h2 z2 l2 A2 => newB_at fun r1 h3 z3 l3 A3 => ⟨(A2.le l3).canSt (by decide), ?_⟩⟩))
    generalize toldW T j bal = W at *
    generalize toldS T j bal = S at *
    have nrr := A2.ne z3
    have z3' := none_of_le l2 z3
    have B2 : At _ r [int .i64 W.1, int .i64 W.2] := (A2.le l3).set (o := 0) (ws := [int .i64 W.1, int .i64 W.2])
    have B3 := A3.set_ne (o := 0) (ws := [int .i64 W.1, int .i64 W.2]) (b' := r) (fun e => nrr e.symm)
    have C2 := B2.set_ne (o := 0) (ws := [int .i64 S.1, int .i64 S.2]) nrr
    have C3 : At _ r1 [int .i64 S.1, int .i64 S.2] := B3.set (o := 0) (ws := [int .i64 S.1, int .i64 S.2])
    have lH := Heap.le_trans l1 (le_setN (o := 0) (ws := [int .i64 S.1, int .i64 S.2]) (le_setN (o := 0) (ws := [int .i64 W.1, int .i64 W.2]) (Heap.le_trans l2 l3) z2) z3')
    refine ⟨B3.canSt (by simp), ?_⟩
    generalize (h3.setN r 0 [int .i64 W.1, int .i64 W.2]).setN r1 0 [int .i64 S.1, int .i64 S.2] = H at *
    have zr1 := none_of_le l1 z3'
    have nq1r := J.o1.fresh zr1
    have nbr := J.ab.ne zr1
    have Ab := J.ab.le lH
    have A4 := J.a4.le lH
    refine ⟨_, _, _, Ab.cell rfl, _, C2.cell rfl, _, C2.cell rfl, push1 (J.o1.le lH) (by decide) (Heap.le_trans J.base lH) (by omega) rfl rfl f1 fun s h4 q1' c1' h5 zs l4 l5 P1 keep how => ?_⟩
    have Ab5 := keepAt keep (Ab.le l4) J.n1b
    have A45 := keepAt keep (A4.le l4) J.n14
    have D5 := keepAt keep (C3.le l4) nq1r
    have n1b' := push_ne how (Ab.le l4) J.n1b
    have n14' := push_ne how (A4.le l4) J.n14
    have o2' := (J.o2.le lH).le l4
    have n12' : ∀ x, q1' = some ⟨x, 0, none⟩ → q2 ≠ some ⟨x, 0, none⟩ := fun x e => by
      rcases how with rfl | ⟨s, e3, hs⟩
      · exact J.n12 x e
      · rw [e3] at e; cases e; exact o2'.fresh hs
    have P2 := (o2'.mv fun x xs e A => keepAt keep A fun e4 => J.n12 x e4 e).set_ne (o := 1) (ws := [slice q1' (j + 1) c1']) J.n2b
    have Ab6 : At _ b [slice p rn cp, slice q1' (j + 1) c1', slice q2 j c2, int .i64 0, int .i64 0, int .i64 0, int .i64 0] := Ab5.set (o := 1) (ws := [slice q1' (j + 1) c1'])
    have A46 := A45.set_ne (o := 1) (ws := [slice q1' (j + 1) c1']) J.ne
    have D6 := D5.set_ne (o := 1) (ws := [slice q1' (j + 1) c1']) (b' := b) (fun e => nbr e.symm)
    have P1' := P1.set_ne (o := 1) (ws := [slice q1' (j + 1) c1']) n1b'
    have l6 := le_setN (o := 1) (ws := [slice q1' (j + 1) c1']) l5 J.zb
    refine ⟨Ab5.canSt (by simp), ?_⟩
    generalize h5.setN b 1 [slice q1' (j + 1) c1'] = h6 at *
    refine ⟨_, _, _, Ab6.cell rfl, _, D6.cell rfl, _, D6.cell rfl, push1 P2 (by decide) l6 (by omega) rfl rfl f2 fun s2 h7 q2' c2' h8 zs2 l7 l8 P3 keep2 how2 => ?_⟩
    have Ab8 := keepAt keep2 (Ab6.le l7) J.n2b
    have n2b' := push_ne how2 (Ab6.le l7) J.n2b
    have n24' := push_ne how2 (A46.le l7) J.n24
    refine ⟨Ab8.canSt (by simp), ?_⟩
    have oo1 : OwnL h0 (h8.setN b 2 [slice q2' (j + 1) c2']) [int .i64 0, int .i64 0] q1' c1' ((rowF (toldW T) 0 (row.take (j + 1))).flatMap tdV1) := by
      rw [e1]; exact ((P1'.le l7).mv fun x xs e A => keepAt keep2 A (n12' x e)).set_ne n1b'
    have oo2 : OwnL h0 (h8.setN b 2 [slice q2' (j + 1) c2']) [int .i64 0, int .i64 0] q2' c2' ((rowF (toldS T) 0 (row.take (j + 1))).flatMap tdV1) := by
      rw [e2]; exact P3.set_ne n2b'
    have nn12 : ∀ x, q1' = some ⟨x, 0, none⟩ → q2' ≠ some ⟨x, 0, none⟩ := fun x e e4 => by
      rcases how2 with rfl | ⟨s, e3, hs⟩
      · exact n12' x e e4
      · rw [e3] at e4; cases e4; exact (P1'.le l7).fresh hs e
    rw [w1 (by omega)]
    exact ih (j + 1) _ q1' q2' c1' c2' (by omega) { base := le_setN l8 J.zb, z4 := J.z4, zb := J.zb, ne := J.ne, a4 := (keepAt keep2 (A46.le l7) J.n24).set_ne J.ne, ab := Ab8.set (o := 2) (ws := [slice q2' (j + 1) c2']), o1 := oo1, o2 := oo2, n14 := n14', n1b := n1b', n24 := n24', n2b := n2b', n12 := nn12 }
theorem S_account {p : Option Addr} {row : List Int} {rn cp : Nat} (C : Curs h a T) (hn : T.length = n) (ok : T.all inbB = true) (Aw : At h w (.slice a n c :: ws)) (I : Ints .i64 h p row) (hr : row.length = rn) (hs : rn ≤ 1000000) (hI : ∀ x ∈ row, I64 x)
    (k : ∀ h' q1 q2 c1 c2, h.le h' → OwnL h h' [int .i64 0, int .i64 0] q1 c1 ((rowF (toldW T) 0 row).flatMap tdV1) → OwnL h h' [int .i64 0, int .i64 0] q2 c2 ((rowF (toldS T) 0 row).flatMap tdV1) → (∀ x, q1 = some ⟨x, 0, none⟩ → q2 ≠ some ⟨x, 0, none⟩) →
      K (agg #[slice p rn cp, slice q1 rn c1, slice q2 rn c2, int .i64 (netW T row).1, int .i64 (netW T row).2, int .i64 (shW T row).1, int .i64 (shW T row).2]) h') :
    CallA Try.prog fn_pworth_Worths_account [pointer (some ⟨w, 0, none⟩), slice p rn cp] h K := by
  refine F_pworth_Worths_account _ _ _ _ _ _ ?_
  unfold F_pworth_Worths_accountT
  refine newB_at fun r h1 hr1 l1 A1 => newB_cp (vs := [slice p rn cp, slice none 0 0, slice none 0 0, int .i64 0, int .i64 0, int .i64 0, int .i64 0]) rfl fun r2 h2 hr2 l2 A2 cs => ⟨cs, ?_⟩
  exact acc_loop C hn ok Aw I hr hs hI k rn 0 _ none none 0 0 rfl { base := Heap.le_trans l1 l2, z4 := hr1, zb := none_of_le l1 hr2, ne := A1.ne hr2, a4 := A1.le l2, ab := A2, o1 := OwnL.nil _ _ _, o2 := OwnL.nil _ _ _, n14 := nofun, n1b := nofun, n24 := nofun, n2b := nofun, n12 := nofun }
end
end Go.Proofs.Ytghdadniddoboaa

/- A ledger in memory: its row of nostros, and all balances in a row. -/
namespace Go.Proofs.Ytghdadniddoboaa
open Go Go.Sy Go.Value
set_option linter.unusedVariables false
set_option linter.unusedSimpArgs false

def ledV (B C : Nat) (S : Lg) : List Value := .slice (some ⟨B, 0, none⟩) S.M.length C :: (intsV .i64 S.N ++ [.int .i64 (S.cur : Int)])
structure LedAt (h : Heap) (p B C : Nat) (sp : List Value) (S : Lg) : Prop where
  ap : At h p (ledV B C S)
  ab : At h B (intsV .i64 S.M.flatten ++ sp)
  ne : p ≠ B
  sz : S.Sz
theorem Lg.Sz.wr {S : Lg} (o : S.Sz) {i c : Nat} {v : Int} (hi : i < S.M.length) (hc : c < 8) (hv : I64 v) : (wrG S i c v).Sz := by
  have hl : (wrM S.M i c v).length = S.M.length := (o.sh.wr hi).1
  refine { n1 := by show 1 ≤ (wrM S.M i c _).length; rw [hl]; exact o.n1, n16 := by show (wrM S.M i c _).length ≤ 16; rw [hl]; exact o.n16, c1 := o.c1, c8 := o.c8, sh := by show shM (wrM S.M i c _) (wrM S.M i c _).length 8; rw [hl]; exact o.sh.wr hi, N8 := o.N8, i64 := fun j d => ?_, n64 := o.n64 }
  show I64 (rdM (wrM S.M i c v) j d)
  rw [rd_wr o.sh hi hc]; split
  · exact hv
  · exact o.i64 j d
theorem Lg.Sz.wn {S : Lg} (o : S.Sz) {c : Nat} {v : Int} (hc : c < 8) (hv : I64 v) : (wnG S c v).Sz := by
  refine { o with N8 := by show (S.N.set c v).length = 8; rw [List.length_set]; exact o.N8, n64 := fun d => ?_ }
  show I64 ((S.N.set c v).getD d 0)
  rw [getD_set _ _ _ _ (by rw [o.N8]; exact hc)]; split
  · exact hv
  · exact o.n64 d
section
variable {h : Heap} {p B C : Nat} {sp : List Value} {S : Lg}
theorem LedAt.le {h' : Heap} (A : LedAt h p B C sp S) (l : h.le h') : LedAt h' p B C sp S := ⟨A.ap.le l, A.ab.le l, A.ne, A.sz⟩
theorem LedAt.rows (A : LedAt h p B C sp S) : h.cell p 0 = some (.slice (some ⟨B, 0, none⟩) S.M.length C) := A.ap.cell rfl
theorem LedAt.cur (A : LedAt h p B C sp S) : h.cell p 9 = some (.int .i64 (S.cur : Int)) := A.ap.cell (by
  show (intsV .i64 S.N ++ [.int .i64 (S.cur : Int)])[8]? = _
  rw [List.getElem?_append_right (by rw [intsV_length, A.sz.N8]; omega), intsV_length, A.sz.N8]; rfl)
theorem LedAt.nos (A : LedAt h p B C sp S) {c : Nat} (hc : c < 8) : h.cell p (0 + 1 + c) = some (.int .i64 (S.N.getD c 0)) := A.ap.cell (by
  rw [Nat.zero_add, Nat.add_comm]
  show (intsV .i64 S.N ++ [.int .i64 (S.cur : Int)])[c]? = _
  have hN := A.sz.N8
  rw [List.getElem?_append_left (by rw [intsV_length]; omega), intsV_map, List.getElem?_map, List.getElem?_eq_getElem (by omega), List.getD_eq_getElem?_getD, List.getElem?_eq_getElem (by omega)]; rfl)
theorem LedAt.el (A : LedAt h p B C sp S) {i c : Nat} (hi : i < S.M.length) (hc : c < 8) : h.cell B (0 + i * 8 + c) = some (.int .i64 (rdM S.M i c)) := A.ab.cell (by
  have hl := flat_len A.sz.sh.2
  have : i * 8 + c < S.M.length * 8 := by omega
  rw [Nat.zero_add, List.getElem?_append_left (by rw [intsV_length, hl]; exact this), intsV_map, List.getElem?_map, flat_get A.sz.sh.2 hi hc]; rfl)
theorem LedAt.stR (A : LedAt h p B C sp S) {i c : Nat} (hi : i < S.M.length) (hc : c < 8) : h.canSt B (0 + i * 8 + c) 1 := A.ab.canSt (by
  rw [List.length_append, intsV_length, flat_len A.sz.sh.2]; omega)
theorem LedAt.stN (A : LedAt h p B C sp S) {c : Nat} (hc : c < 8) : h.canSt p (0 + 1 + c) 1 := A.ap.canSt (by
  unfold ledV
  simp only [List.length_cons, List.length_append, intsV_length, A.sz.N8, List.length_nil]; omega)
theorem setL_ints1 {l : List Int} {sp : List Value} {c : Nat} {v : Int} (h : c < l.length) : setL (intsV .i64 l ++ sp) c [.int .i64 v] = intsV .i64 (l.set c v) ++ sp := by
  rw [setL, setL, setT_eq, List.set_append_left _ _ (by rw [intsV_length]; omega), intsV_map, intsV_map, List.map_set]
theorem LedAt.wrR (A : LedAt h p B C sp S) {i c : Nat} {v : Int} (hi : i < S.M.length) (hc : c < 8) (hv : I64 v) : LedAt (h.setN B (0 + i * 8 + c) [.int .i64 v]) p B C sp (wrG S i c v) := by
  have hl := flat_len A.sz.sh.2
  refine ⟨?_, ?_, A.ne, A.sz.wr hi hc hv⟩
  · have := A.ap.set_ne (o := 0 + i * 8 + c) (ws := [.int .i64 v]) A.ne
    unfold ledV at this ⊢
    rw [show (wrG S i c v).M.length = S.M.length from (A.sz.sh.wr hi).1]
    exact this
  · have := A.ab.set (o := 0 + i * 8 + c) (ws := [.int .i64 v])
    rw [Nat.zero_add, setL_ints1 (by omega), ← flat_set A.sz.sh.2 hi hc] at this
    rw [Nat.zero_add]
    exact this
theorem LedAt.wrN (A : LedAt h p B C sp S) {c : Nat} {v : Int} (hc : c < 8) (hv : I64 v) : LedAt (h.setN p (0 + 1 + c) [.int .i64 v]) p B C sp (wnG S c v) := by
  refine ⟨?_, A.ab.set_ne (fun e => A.ne e.symm), A.ne, A.sz.wn hc hv⟩
  have := A.ap.set (o := 0 + 1 + c) (ws := [.int .i64 v])
  unfold ledV at this ⊢
  rw [Nat.zero_add, Nat.add_comm 1 c] at *
  have e : ∀ (a : Value) (l : List Value), setL (a :: l) (c + 1) [.int .i64 v] = a :: setL l c [.int .i64 v] := fun a l => rfl
  rw [e, setL_ints1 (by rw [A.sz.N8]; exact hc)] at this
  exact this
/-- reading a balance -/
theorem LedAt.get (A : LedAt h p B C sp S) {i c : Nat} (hi : i < S.M.length) (hc : c < 8) {Q : Int → Prop} (kk : Q (rdM S.M i c)) :
    withAddr (some ⟨p, 0, none⟩) fun b o => ∃ a n m, h.cell b o = some (.slice a n m) ∧ 0 ≤ (i : Int) ∧ (i : Int) < (n : Int) ∧
      withAddr a fun b o => Br (decide (0 ≤ (c : Int))) (Br (decide ((c : Int) < 8)) (∃ n, h.cell b (o + (i : Int).toNat * 8 + (c : Int).toNat) = some (.int .i64 n) ∧ Q n) False) False :=
  withAddr_intro rfl ⟨_, _, _, A.rows, by omega, by omega, withAddr_intro rfl (Br.yes (decide_eq_true (by omega)) (Br.yes (decide_eq_true (by omega)) ⟨_, A.el hi hc, kk⟩))⟩
/-- reading a nostro -/
theorem LedAt.getN (A : LedAt h p B C sp S) {c : Nat} (hc : c < 8) {Q : Int → Prop} (kk : Q (S.N.getD c 0)) :
    withAddr (some ⟨p, 0, none⟩) fun b o => Br (decide (0 ≤ (c : Int))) (Br (decide ((c : Int) < 8)) (∃ n, h.cell b (o + 1 + (c : Int).toNat) = some (.int .i64 n) ∧ Q n) False) False :=
  withAddr_intro rfl (Br.yes (decide_eq_true (by omega)) (Br.yes (decide_eq_true (by omega)) ⟨_, A.nos hc, kk⟩))
/-- writing a nostro -/
theorem LedAt.setNo (A : LedAt h p B C sp S) {c : Nat} (hc : c < 8) {v : Int} {R : Heap → Prop} (kk : R (h.setN p (0 + 1 + c) [.int .i64 v])) :
    withAddr (some ⟨p, 0, none⟩) fun b o => Br (decide (0 ≤ (c : Int))) (Br (decide ((c : Int) < 8)) (h.canSt b (o + 1 + (c : Int).toNat) 1 ∧ R (h.setN b (o + 1 + (c : Int).toNat) [.int .i64 v])) False) False :=
  withAddr_intro rfl (Br.yes (decide_eq_true (by omega)) (Br.yes (decide_eq_true (by omega)) ⟨A.stN hc, kk⟩))
end
/-! postings in memory -/
def poV : List Pst → List Value
  | [] => []
  | x :: r => .int .i64 x.m :: .int .i64 x.c :: .int .i64 x.a :: poV r
theorem poV_length : ∀ l, (poV l).length = l.length * 3
  | [] => rfl
  | x :: l => by simp only [poV, List.length_cons, poV_length l]; omega
theorem poV_append : ∀ l m, poV (l ++ m) = poV l ++ poV m
  | [], m => rfl
  | x :: l, m => by simp only [List.cons_append, poV, poV_append l m]
theorem allCells_po : ∀ l, allCells (poV l) = true
  | [] => rfl
  | x :: l => allCells_po l
theorem poV_get : ∀ (l : List Pst) (j : Nat) (x : Pst), l[j]? = some x → (poV l)[j * 3]? = some (.int .i64 x.m) ∧ (poV l)[j * 3 + 1]? = some (.int .i64 x.c) ∧ (poV l)[j * 3 + 2]? = some (.int .i64 x.a)
  | [], j, x, h => by simp at h
  | y :: l, 0, x, h => by
    simp at h
    subst h
    exact ⟨rfl, rfl, rfl⟩
  | y :: l, j + 1, x, h => by
    have := poV_get l j x (by simpa using h)
    have e : ∀ i, (poV (y :: l))[(j + 1) * 3 + i]? = (poV l)[j * 3 + i]? := fun i => by
      rw [show (j + 1) * 3 + i = j * 3 + i + 1 + 1 + 1 from by omega]
      simp only [poV, List.getElem?_cons_succ]
    exact ⟨(e 0).trans this.1, (e 1).trans this.2.1, (e 2).trans this.2.2⟩
def Pos (h : Heap) (p : Option Addr) (l : List Pst) : Prop := rdL h p (poV l)
theorem px {h : Heap} {p : Option Addr} {l : List Pst} {N : Nat} (C : Pos h p l) (hn : l.length = N) {j : Nat} {i : Int} (hi : i = (j : Int)) {x : Pst} (hx : l[j]? = some x) {Q : Int → Int → Int → Prop} (kk : Q x.m x.c x.a) :
    0 ≤ i ∧ i < (N : Int) ∧ withAddr p fun b o => ∃ n, h.cell b (o + i.toNat * 3) = some (.int .i64 n) ∧ ∃ n1, h.cell b (o + i.toNat * 3 + 1) = some (.int .i64 n1) ∧ ∃ n2, h.cell b (o + i.toNat * 3 + 2) = some (.int .i64 n2) ∧ Q n n1 n2 := by
  subst hi hn
  have hj : j < l.length := (List.getElem?_eq_some_iff.1 hx).1
  obtain ⟨g0, g1, g2⟩ := poV_get l j x hx
  rcases C with e | ⟨b, o, e, r⟩
  · have := congrArg List.length e
    rw [poV_length, List.length_nil] at this
    omega
  · rw [Int.toNat_natCast]
    refine ⟨by omega, by omega, withAddr_intro e ⟨_, ?_, _, ?_, _, ?_, kk⟩⟩
    · rw [r _ (by rw [poV_length]; omega), g0]
    · rw [Nat.add_assoc, r _ (by rw [poV_length]; omega), g1]
    · rw [Nat.add_assoc, r _ (by rw [poV_length]; omega), g2]
def poSh : Sh := .two (.int .i64) (.two (.int .i64) (.two (.int .i64) .nil))
theorem pos_of {h : Heap} {p : Option Addr} {n c : Nat} (H : (Sh.sl poSh).Has h [.slice p n c]) : n ≤ c ∧ c ≤ 9223372036854775807 ∧ ∃ L : List Pst, L.length = n ∧ Pos h p L ∧ ∀ x ∈ L, I64 x.m ∧ I64 x.c ∧ I64 x.a := by
  obtain ⟨h1, h2, L, hL, hA, hR⟩ := Sh.Has.list H
  refine ⟨h1, h2, ?_⟩
  have : ∀ L : List (List Value), (∀ vs ∈ L, vs.length = poSh.n ∧ poSh.Has h vs) → ∃ l : List Pst, l.length = L.length ∧ L.flatten = poV l ∧ ∀ x ∈ l, I64 x.m ∧ I64 x.c ∧ I64 x.a := by
    intro L
    induction L with
    | nil => exact fun _ => ⟨[], rfl, rfl, fun _ hn => (by cases hn)⟩
    | cons a L ih =>
      intro hA
      obtain ⟨l, e1, e2, e3⟩ := ih (fun vs hv => hA vs (List.mem_cons_of_mem _ hv))
      have ha := (hA a (List.mem_cons_self ..)).2
      obtain ⟨a1, r1, rfl, _, ⟨n1, rfl, w1⟩, a2, r2, rfl, _, ⟨n2, rfl, w2⟩, a3, r3, rfl, _, ⟨n3, rfl, w3⟩, hnil⟩ := ha
      have hnil : r3 = [] := hnil
      subst hnil
      refine ⟨⟨n1, n2, n3⟩ :: l, by simp [e1], ?_, fun x hx => ?_⟩
      · rw [List.flatten_cons, e2]; rfl
      · rcases List.mem_cons.1 hx with rfl | hx
        · exact ⟨I64.of_wf w1, I64.of_wf w2, I64.of_wf w3⟩
        · exact e3 x hx
  obtain ⟨l, e1, e2, e3⟩ := this L hA
  exact ⟨l, by rw [e1, hL], by unfold Pos; rw [← e2]; exact hR, e3⟩
end Go.Proofs.Ytghdadniddoboaa

/- The ledger's operations: what each answers, and what stands in memory then. -/
namespace Go.Proofs.Ytghdadniddoboaa
open Go Go.Sy Go.Value
set_option linter.unusedVariables false
set_option linter.unusedSimpArgs false
section
variable {h0 h : Heap} {K : Value → Heap → Prop} {p B C : Nat} {sp : List Value} {S : Lg}
theorem S_lhas (A : LedAt h p B C sp S) {m c : Int} (k : K (.bool (hasB S m c)) h) : CallA Try.prog fn_pledger_Ledger_has [pointer (some ⟨p, 0, none⟩), .int .i64 m, .int .i64 c] h K := by
  refine F_pledger_Ledger_has _ _ _ _ _ ?_
  unfold F_pledger_Ledger_hasT
  unfold hasB at k
  refine Br.dec (fun h1 => withAddr_intro rfl ⟨_, _, _, A.rows, Br.dec (fun h2 => Br.dec (fun h3 => withAddr_intro rfl ⟨_, A.cur, Ret.mk ?_⟩) fun h3 => Ret.mk ?_) fun h2 => Ret.mk ?_⟩) fun h1 => Ret.mk ?_
  · have e : decide (0 ≤ m ∧ m < (S.M.length : Int) ∧ 0 ≤ c ∧ c < (S.cur : Int)) = decide (c < (S.cur : Int)) := decide_eq_decide.2 ⟨fun x => x.2.2.2, fun x => ⟨h1, h2, h3, x⟩⟩
    rw [e] at k; exact k
  · rw [decide_eq_false (fun x => h3 x.2.2.1)] at k; exact k
  · rw [decide_eq_false (fun x => h2 x.2.1)] at k; exact k
  · rw [decide_eq_false (fun x => h1 x.1)] at k; exact k
theorem S_lGet (A : LedAt h p B C sp S) {m c : Int} (k : K (.int .i64 (getG S m c)) h) : CallA Try.prog fn_pledger_Ledger_Get [pointer (some ⟨p, 0, none⟩), .int .i64 m, .int .i64 c] h K := by
  refine F_pledger_Ledger_Get _ _ _ _ _ ?_
  unfold F_pledger_Ledger_GetT
  refine S_lhas A ⟨_, rfl, ?_⟩
  unfold getG at k
  cases hb : hasB S m c with
  | false => rw [hb, if_neg (by decide)] at k; exact Br.yes rfl (Ret.mk k)
  | true =>
    rw [hb, if_pos rfl] at k
    obtain ⟨i, j, rfl, rfl, hi, hj⟩ := hasB_t hb
    have := A.sz.c8
    exact Br.no rfl (A.get hi (by omega) (Ret.mk k))
theorem S_lNostro (A : LedAt h p B C sp S) {c : Int} (k : K (.int .i64 (nosG S c)) h) : CallA Try.prog fn_pledger_Ledger_Nostro [pointer (some ⟨p, 0, none⟩), .int .i64 c] h K := by
  refine F_pledger_Ledger_Nostro _ _ _ _ ?_
  unfold F_pledger_Ledger_NostroT
  refine S_lhas A ⟨_, rfl, ?_⟩
  unfold nosG at k
  cases hb : hasB S 0 c with
  | false => rw [hb, if_neg (by decide)] at k; exact Br.yes rfl (Ret.mk k)
  | true =>
    rw [hb, if_pos rfl] at k
    obtain ⟨i, j, e, rfl, hi, hj⟩ := hasB_t hb
    have := A.sz.c8
    exact Br.no rfl (A.getN (by omega) (Ret.mk k))
theorem S_lSize (A : LedAt h p B C sp S) (k : K (tuple #[.int .i64 (S.M.length : Int), .int .i64 (S.cur : Int)]) h) : CallA Try.prog fn_pledger_Ledger_Size [pointer (some ⟨p, 0, none⟩)] h K := by
  refine F_pledger_Ledger_Size _ _ _ ?_
  unfold F_pledger_Ledger_SizeT
  exact withAddr_intro rfl ⟨_, _, _, A.rows, withAddr_intro rfl ⟨_, A.cur, Ret.mk k⟩⟩
theorem repL_zeros8 (n : Nat) : repL n [Value.int .i64 0, .int .i64 0, .int .i64 0, .int .i64 0, .int .i64 0, .int .i64 0, .int .i64 0, .int .i64 0] = intsV .i64 (List.replicate n (List.replicate 8 (0 : Int))).flatten := by
  induction n with
  | zero => rfl
  | succ n ih => rw [List.replicate_succ, List.flatten_cons, intsV_append, ← ih]; rfl
theorem S_lNew {m c : Int} (k1 : ¬ (1 ≤ m ∧ m ≤ 16 ∧ 1 ≤ c ∧ c ≤ 8) → K (tuple #[.pointer none, .int .i64 1]) h)
    (k2 : ∀ n w : Nat, m = (n : Int) → c = (w : Int) → 1 ≤ n → n ≤ 16 → 1 ≤ w → w ≤ 8 → ∀ h' p B C sp, h.le h' → LedAt h' p B C sp (newG n w) → h p = none → h B = none → K (tuple #[.pointer (some ⟨p, 0, none⟩), .int .i64 0]) h') :
    CallA Try.prog fn_ledger_New [.int .i64 m, .int .i64 c] h K := by
  refine F_ledger_New _ _ _ _ ?_
  unfold F_ledger_NewT
  refine Br.dec (fun h1 => Ret.mk (k1 (by omega))) fun h1 => Br.dec (fun h2 => Ret.mk (k1 (by omega))) fun h2 => Br.dec (fun h3 => Ret.mk (k1 (by omega))) fun h3 => Br.dec (fun h4 => Ret.mk (k1 (by omega))) fun h4 => ?_
  obtain ⟨n, rfl⟩ : ∃ n : Nat, m = n := ⟨m.toNat, by omega⟩
  obtain ⟨w, rfl⟩ : ∃ w : Nat, c = w := ⟨c.toNat, by omega⟩
  refine ⟨by omega, by omega, by omega, by omega, fun r hr r2 hr2 => ?_⟩
  rw [Int.toNat_natCast] at hr2 ⊢
  have hne : r ≠ r2 := fun e => by rw [← e] at hr2; unfold Heap.ins at hr2; rw [if_pos rfl] at hr2; cases hr2
  refine Ret.mk (k2 n w rfl rfl (by omega) (by omega) (by omega) (by omega) _ r2 r n [] (le_ins2 (le_ins hr) hr2) ⟨?_, ?_, fun e => hne e.symm, (newG_ok (by omega) (by omega) (by omega) (by omega)).toSz⟩ (none_of_le (le_ins hr) hr2) hr)
  · have := At.new (h.ins r (.cells (repL n [Value.int .i64 0, .int .i64 0, .int .i64 0, .int .i64 0, .int .i64 0, .int .i64 0, .int .i64 0, .int .i64 0]).toArray 123 (0, 0))) r2 (ledV r n (newG n w)) 125
    unfold ledV newG at this ⊢
    rw [List.length_replicate] at this ⊢
    exact this
  · have := (At.new h r (repL n [Value.int .i64 0, .int .i64 0, .int .i64 0, .int .i64 0, .int .i64 0, .int .i64 0, .int .i64 0, .int .i64 0]) 123).ins (x := .cells [slice (some ⟨r, 0, none⟩) n n, .int .i64 0, .int .i64 0, .int .i64 0, .int .i64 0, .int .i64 0, .int .i64 0, .int .i64 0, .int .i64 0, .int .i64 (w : Int)].toArray 125 (0, 0)) hr2
    rw [List.append_nil, show (newG n w).M.flatten = (List.replicate n (List.replicate 8 (0 : Int))).flatten from rfl, ← repL_zeros8]
    exact this
theorem fit_I (a : Int) : I64 (fit a).1 := by
  unfold fit I64
  split
  · assumption
  · decide
theorem br8 {c : Nat} (hc : c < 8) {X : Prop} (k : X) : Br (decide (0 ≤ (c : Int))) (Br (decide ((c : Int) < 8)) X False) False := Br.yes (decide_eq_true (by omega)) (Br.yes (decide_eq_true (by omega)) k)
theorem S_lIn (l0 : h0.le h) (np : h0 p = none) (nB : h0 B = none) (A : LedAt h p B C sp S) {m c a : Int} (ha : I64 a)
    (k : ∀ h', h0.le h' → LedAt h' p B C sp (inG S m c a).2 → K (.int .i64 (inG S m c a).1) h') : CallA Try.prog fn_pledger_Ledger_In [pointer (some ⟨p, 0, none⟩), .int .i64 m, .int .i64 c, .int .i64 a] h K := by
  refine F_pledger_Ledger_In _ _ _ _ _ _ ?_
  unfold F_pledger_Ledger_InT
  refine S_lhas A ⟨_, rfl, ?_⟩
  unfold inG at k
  by_cases hb : hasB S m c = false
  · rw [if_pos hb] at k
    rw [hb]
    exact Br.yes rfl (Ret.mk (k h l0 A))
  rw [if_neg hb] at k
  have hb : hasB S m c = true := by simpa using hb
  rw [hb]
  obtain ⟨i, j, rfl, rfl, hi, hj⟩ := hasB_t hb
  have h8 := A.sz.c8
  have hj8 : j < 8 := by omega
  refine Br.no rfl (Br.dec (fun h2 => ?_) fun h2 => ?_)
  · rw [if_pos h2] at k
    exact Ret.mk (k h l0 A)
  rw [if_neg h2] at k
  refine A.get hi hj8 (S_Add (A.sz.i64 i j) ha h _ ⟨_, _, rfl, A.getN hj8 (S_Add (A.sz.n64 j) ha h _ ⟨_, _, rfl, ?_⟩)⟩)
  simp only [Int.toNat_natCast] at k ⊢
  by_cases h3 : (fit (rdM S.M i j + a)).2 ≠ 0
  · rw [if_pos h3] at k
    exact Br.yes (by simpa using h3) (Ret.mk (k h l0 A))
  rw [if_neg h3] at k
  by_cases h4 : (fit (S.N.getD j 0 + a)).2 ≠ 0
  · rw [if_pos h4] at k
    exact Br.no (by simpa using h3) (Br.yes (by simpa using h4) (Ret.mk (k h l0 A)))
  rw [if_neg h4, ← fit_e h3, ← fit_e h4] at k
  have A1 := A.wrR (v := (fit (rdM S.M i j + a)).1) hi hj8 (fit_I _)
  have A2 := A1.wrN (v := (fit (S.N.getD j 0 + a)).1) hj8 (fit_I _)
  exact Br.no (by simpa using h3) (Br.no (by simpa using h4) (withAddr_intro rfl ⟨_, _, _, A.rows, by omega, by omega, withAddr_intro rfl (Br.yes (decide_eq_true (by omega)) (Br.yes (decide_eq_true (by omega)) (withAddr_intro rfl ⟨A.stR hi hj8,
    Br.yes (decide_eq_true (by omega)) (Br.yes (decide_eq_true (by omega)) ⟨A1.stN hj8, Ret.mk (k _ (le_setN (le_setN l0 nB) np) A2)⟩)⟩)))⟩))
theorem S_lOut (l0 : h0.le h) (np : h0 p = none) (nB : h0 B = none) (A : LedAt h p B C sp S) {m c a : Int} (ha : I64 a)
    (k : ∀ h', h0.le h' → LedAt h' p B C sp (outG S m c a).2 → K (.int .i64 (outG S m c a).1) h') : CallA Try.prog fn_pledger_Ledger_Out [pointer (some ⟨p, 0, none⟩), .int .i64 m, .int .i64 c, .int .i64 a] h K := by
  refine F_pledger_Ledger_Out _ _ _ _ _ _ ?_
  unfold F_pledger_Ledger_OutT
  refine S_lhas A ⟨_, rfl, ?_⟩
  unfold outG at k
  by_cases hb : hasB S m c = false
  · rw [if_pos hb] at k
    rw [hb]
    exact Br.yes rfl (Ret.mk (k h l0 A))
  rw [if_neg hb] at k
  have hb : hasB S m c = true := by simpa using hb
  rw [hb]
  obtain ⟨i, j, rfl, rfl, hi, hj⟩ := hasB_t hb
  have h8 := A.sz.c8
  have hj8 : j < 8 := by omega
  refine Br.no rfl (Br.dec (fun h2 => ?_) fun h2 => ?_)
  · rw [if_pos h2] at k
    exact Ret.mk (k h l0 A)
  rw [if_neg h2] at k
  simp only [Int.toNat_natCast] at k
  have g1 := A.sz.i64 i j
  have g2 := A.sz.n64 j
  unfold I64 at g1 g2 ha
  refine A.get hi hj8 (Br.dec (fun h3 => ?_) fun h3 => ?_)
  · rw [if_pos h3] at k
    exact Ret.mk (k h l0 A)
  rw [if_neg h3] at k
  refine A.getN hj8 (Br.dec (fun h4 => ?_) fun h4 => ?_)
  · rw [if_pos h4] at k
    exact Ret.mk (k h l0 A)
  rw [if_neg h4] at k
  have e1 : IntKind.wrap IntKind.i64 (rdM S.M i j - a) = rdM S.M i j - a := wrap_i64_id (by omega) (by omega)
  have e2 : IntKind.wrap IntKind.i64 (S.N.getD j 0 - a) = S.N.getD j 0 - a := wrap_i64_id (by omega) (by omega)
  rw [← e1, ← e2] at k
  have A1 := A.wrR (v := IntKind.wrap IntKind.i64 (rdM S.M i j - a)) hi hj8 (by rw [e1]; unfold I64; omega)
  have A2 := A1.wrN (v := IntKind.wrap IntKind.i64 (S.N.getD j 0 - a)) hj8 (by rw [e2]; unfold I64; omega)
  exact withAddr_intro rfl ⟨_, _, _, A.rows, by omega, by omega, withAddr_intro rfl (br8 hj8 ⟨_, A.el hi hj8, by omega, by omega, withAddr_intro rfl (br8 hj8 ⟨A.stR hi hj8, withAddr_intro rfl (br8 hj8 ⟨_, A1.nos hj8, withAddr_intro rfl (br8 hj8 ⟨A1.stN hj8, Ret.mk (k _ (le_setN (le_setN l0 nB) np) A2)⟩)⟩)⟩)⟩)⟩
theorem S_lSwap (l0 : h0.le h) (np : h0 p = none) (nB : h0 B = none) (A : LedAt h p B C sp S) {m get give got given : Int} (ha : I64 got) (hb : I64 given)
    (k : ∀ h', h0.le h' → LedAt h' p B C sp (swapG S m get give got given).2 → K (.int .i64 (swapG S m get give got given).1) h') :
    CallA Try.prog fn_pledger_Ledger_Swap [pointer (some ⟨p, 0, none⟩), .int .i64 m, .int .i64 get, .int .i64 give, .int .i64 got, .int .i64 given] h K := by
  refine F_pledger_Ledger_Swap _ _ _ _ _ _ _ _ ?_
  unfold F_pledger_Ledger_SwapT
  unfold swapG at k
  refine S_lhas A ⟨_, rfl, ?_⟩
  by_cases h1 : hasB S m get = false
  · rw [if_pos h1] at k
    rw [h1]
    exact Br.yes rfl (Ret.mk (k h l0 A))
  rw [if_neg h1] at k
  have h1 : hasB S m get = true := by simpa using h1
  rw [h1]
  refine Br.no rfl (S_lhas A ⟨_, rfl, ?_⟩)
  by_cases h2 : hasB S m give = false
  · rw [if_pos h2] at k
    rw [h2]
    exact Br.yes rfl (Ret.mk (k h l0 A))
  rw [if_neg h2] at k
  have h2 : hasB S m give = true := by simpa using h2
  rw [h2]
  by_cases h3 : get = give
  · rw [if_pos h3] at k
    exact Br.no rfl (Br.yes (by simpa using h3) (Ret.mk (k h l0 A)))
  rw [if_neg h3] at k
  refine Br.no rfl (Br.no (by simpa using h3) (Br.dec (fun h4 => ?_) fun h4 => ?_))
  · rw [if_pos h4] at k
    exact Ret.mk (k h l0 A)
  rw [if_neg h4] at k
  refine Br.dec (fun h5 => ?_) fun h5 => ?_
  · rw [if_pos h5] at k
    exact Ret.mk (k h l0 A)
  rw [if_neg h5] at k
  obtain ⟨i, j, rfl, rfl, hi, hj⟩ := hasB_t h1
  obtain ⟨i', v, e, rfl, _, hv⟩ := hasB_t h2
  have h8 := A.sz.c8
  have hj8 : j < 8 := by omega
  have hv8 : v < 8 := by omega
  have hne : v ≠ j := fun e => h3 (by rw [e])
  simp only [Int.toNat_natCast] at k
  refine A.getN hv8 (Br.dec (fun h6 => ?_) fun h6 => ?_)
  · rw [if_pos h6] at k
    exact Ret.mk (k h l0 A)
  rw [if_neg h6] at k
  refine A.get hi hj8 (S_Add (A.sz.i64 i j) ha h _ ⟨_, _, rfl, A.getN hj8 (S_Add (A.sz.n64 j) ha h _ ⟨_, _, rfl, A.get hi hv8 (S_Sub (A.sz.i64 i v) hb h _ ⟨_, _, rfl, ?_⟩)⟩)⟩)
  by_cases h7 : (fit (rdM S.M i j + got)).2 ≠ 0
  · rw [if_pos h7] at k
    exact Br.yes (by simpa using h7) (Ret.mk (k h l0 A))
  rw [if_neg h7] at k
  by_cases h9 : (fit (S.N.getD j 0 + got)).2 ≠ 0
  · rw [if_pos h9] at k
    exact Br.no (by simpa using h7) (Br.yes (by simpa using h9) (Ret.mk (k h l0 A)))
  rw [if_neg h9] at k
  by_cases h10 : (fit (rdM S.M i v - given)).2 ≠ 0
  · rw [if_pos h10] at k
    exact Br.no (by simpa using h7) (Br.no (by simpa using h9) (Br.yes (by simpa using h10) (Ret.mk (k h l0 A))))
  have g2 := A.sz.n64 v
  unfold I64 at g2 hb
  have e2 : IntKind.wrap IntKind.i64 (S.N.getD v 0 - given) = S.N.getD v 0 - given := wrap_i64_id (by omega) (by omega)
  rw [if_neg h10, ← fit_e h7, ← fit_e h9, ← fit_e h10, ← e2] at k
  have A1 := A.wrR (v := (fit (rdM S.M i j + got)).1) hi hj8 (fit_I _)
  have A2 := A1.wrN (v := (fit (S.N.getD j 0 + got)).1) hj8 (fit_I _)
  have hl : (wnG (wrG S i j (fit (rdM S.M i j + got)).1) j (fit (S.N.getD j 0 + got)).1).M.length = S.M.length := (A.sz.sh.wr hi).1
  have A3 := A2.wrR (i := i) (c := v) (v := (fit (rdM S.M i v - given)).1) (by rw [hl]; exact hi) hv8 (fit_I _)
  have A4 := A3.wrN (c := v) (v := IntKind.wrap IntKind.i64 (S.N.getD v 0 - given)) hv8 (by rw [e2]; unfold I64; omega)
  have hnos := A3.nos hv8
  have e3 : (wrG (wnG (wrG S i j (fit (rdM S.M i j + got)).1) j (fit (S.N.getD j 0 + got)).1) i v (fit (rdM S.M i v - given)).1).N.getD v 0 = S.N.getD v 0 := by
    show (S.N.set j _).getD v 0 = _
    rw [getD_set _ _ _ _ (by rw [A.sz.N8]; exact hj8), if_neg hne]
  rw [e3] at hnos
  refine Br.no (by simpa using h7) (Br.no (by simpa using h9) (Br.no (by simpa using h10) ?_))
  exact withAddr_intro rfl ⟨_, _, _, A.rows, withAddr_intro rfl ⟨_, _, _, A.rows, by omega, by omega, withAddr_intro rfl (br8 hj8 (withAddr_intro rfl ⟨by omega, by omega, withAddr_intro rfl ⟨A.stR hi hj8, br8 hj8 ⟨A1.stN hj8, br8 hv8 ⟨A2.stR (by rw [hl]; exact hi) hv8,
    withAddr_intro rfl (br8 hv8 ⟨_, hnos, withAddr_intro rfl (br8 hv8 ⟨A3.stN hv8, Ret.mk (k _ (le_setN (le_setN (le_setN (le_setN l0 nB) np) nB) np) A4)⟩)⟩)⟩⟩⟩⟩))⟩⟩
end
end Go.Proofs.Ytghdadniddoboaa

/- A member's balances, taken anew. -/
namespace Go.Proofs.Ytghdadniddoboaa
open Go Go.Sy Go.Value
set_option linter.unusedVariables false
set_option linter.unusedSimpArgs false

def rowG (S : Lg) (m : Int) (j : Nat) : List Int := (List.range j).map fun c : Nat => getG S m (c : Int)
theorem rowG_len (S : Lg) (m : Int) (j : Nat) : (rowG S m j).length = j := by unfold rowG; rw [List.length_map, List.length_range]
theorem rowG_succ (S : Lg) (m : Int) (j : Nat) : rowG S m (j + 1) = rowG S m j ++ [getG S m (j : Int)] := by unfold rowG; rw [List.range_succ, List.map_append]; rfl
theorem getG_I {S : Lg} (o : S.Sz) (m c : Int) : I64 (getG S m c) := by
  unfold getG
  split
  · exact o.i64 _ _
  · exact I64_0
theorem rowG_I {S : Lg} (o : S.Sz) (m : Int) (j : Nat) : ∀ x ∈ rowG S m j, I64 x := fun x hx => by
  unfold rowG at hx
  obtain ⟨c, _, rfl⟩ := List.mem_map.1 hx
  exact getG_I o _ _
theorem own_back {h0 h1 h : Heap} {z : List Value} {p : Option Addr} {c : Nat} {vs : List Value} (x : OwnL h1 h z p c vs) (l : h0.le h1) : OwnL h0 h z p c vs := by
  rcases x with x | ⟨r, sp, e, e0, a, q⟩
  · exact .inl x
  · exact .inr ⟨r, sp, e, none_of_le l e0, a, q⟩
theorem own_blk {h0 h : Heap} {z : List Value} {p : Option Addr} {c : Nat} {vs : List Value} (x : OwnL h0 h z p c vs) (hv : vs ≠ []) : ∃ r sp, p = some ⟨r, 0, none⟩ ∧ h0 r = none ∧ At h r (vs ++ sp) := by
  rcases x with ⟨e, _⟩ | ⟨r, sp, e, e0, a, _⟩
  · exact (hv e).elim
  · exact ⟨r, sp, e, e0, a⟩
section
variable {h : Heap} {K : Value → Heap → Prop} {w lp A nm cA : Nat} {T : List Cur} {a : Option Addr} {n c : Nat}
theorem S_Whas {nm' : Nat} {A' : Option Addr} (Aw : At h w [slice a n c, .pointer (some ⟨lp, 0, none⟩), slice A' nm' cA]) {m : Int} (k : K (.bool (decide (0 ≤ m ∧ m < (nm' : Int)))) h) : CallA Try.prog fn_pworth_Worths_has [pointer (some ⟨w, 0, none⟩), int .i64 m] h K := by
  refine F_pworth_Worths_has _ _ _ _ ?_
  unfold F_pworth_Worths_hasT
  refine Br.dec (fun g => withAddr_intro rfl ⟨_, _, _, Aw.cell rfl, Ret.mk ?_⟩) fun g => Ret.mk ?_
  · have : decide (0 ≤ m ∧ m < (nm' : Int)) = decide (m < (nm' : Int)) := decide_eq_decide.2 ⟨fun x => x.2, fun x => ⟨by omega, x⟩⟩
    rw [← this]; exact k
  · rw [decide_eq_false (by omega)] at k; exact k
variable {B C : Nat} {sp : List Value} {S : Lg}
theorem S_MovedR (CT : Curs h a T) (hn : T.length = n) (n1 : 1 ≤ n) (n8 : n ≤ 8) (ok : T.all inbB = true) (Aw : At h w [slice a n c, .pointer (some ⟨lp, 0, none⟩), slice (some ⟨A, 0, none⟩) nm cA]) {xs : List Value} (AA : At h A xs) (hx : nm * 7 ≤ xs.length) (LA : LedAt h lp B C sp S) {m : Nat} {mi : Int} (hm : mi = (m : Int)) (hmn : m < nm)
    (k : ∀ h1 r0 r1 r2 c0 c1 c2 s0 s1 s2, h.le h1 → h r0 = none → h r1 = none → h r2 = none → r0 ≠ r1 → r0 ≠ r2 → r1 ≠ r2 → At h1 r0 (intsV .i64 (rowG S (m : Int) n) ++ s0) → At h1 r1 ((rowF (toldW T) 0 (rowG S (m : Int) n)).flatMap tdV1 ++ s1) → At h1 r2 ((rowF (toldS T) 0 (rowG S (m : Int) n)).flatMap tdV1 ++ s2) →
      K (tuple #[]) (h1.setN A (m * 7) [slice (some ⟨r0, 0, none⟩) n c0, slice (some ⟨r1, 0, none⟩) n c1, slice (some ⟨r2, 0, none⟩) n c2, int .i64 (netW T (rowG S (m : Int) n)).1, int .i64 (netW T (rowG S (m : Int) n)).2, int .i64 (shW T (rowG S (m : Int) n)).1, int .i64 (shW T (rowG S (m : Int) n)).2])) :
    CallA Try.prog fn_pworth_Worths_Moved [pointer (some ⟨w, 0, none⟩), int .i64 mi] h K := by
  subst hm
  refine F_pworth_Worths_Moved _ _ _ _ ?_
  unfold F_pworth_Worths_MovedT
  refine S_Whas Aw ⟨_, rfl, Br.no (by rw [decide_eq_true (by omega)]; rfl) (withAddr_intro rfl ⟨_, _, _, Aw.cell rfl, ?_⟩)⟩
  have loop : ∀ (d j : Nat) (g : Heap) (q : Option Addr) (cq : Nat), d + j = n → h.le g → OwnL h g [int .i64 0] q cq (intsV .i64 (rowG S (m : Int) j)) → L_pworth_Worths_Moved_0 (some ⟨w, 0, none⟩) (m : Int) q j cq (n : Int) (j : Int) g K := by
    intro d
    induction d with
    | zero =>
      intro j g q cq hj lg own
      refine L_pworth_Worths_Moved_0r _ _ _ _ _ _ _ _ _ ?_
      unfold L_pworth_Worths_Moved_0T
      obtain rfl : j = n := by omega
      have Aw' := Aw.le lg
      have hl := rowG_len S (m : Int) j
      refine Br.no (by simp) (withAddr_intro rfl ⟨_, _, _, Aw'.cell rfl, S_account (CT.le lg) hn ok Aw' own.rd hl (by omega) (rowG_I LA.sz _ _) fun h1 q1 q2 c1 c2 l1 o1 o2 n12 => ⟨_, _, _, _, _, _, _, _, _, _, _, _, _, rfl, .inl l1, by omega, by omega, withAddr_intro rfl ?_⟩⟩)
      have AA1 := AA.le (Heap.le_trans lg l1)
      have hne : ∀ {α : Type} {x : List α}, 1 ≤ x.length → x ≠ [] := fun hx e => by rw [e] at hx; simp at hx
      obtain ⟨r0, s0, rfl, z0, A0⟩ := own_blk own (hne (by rw [intsV_length, hl]; exact n1))
      obtain ⟨r1, s1, rfl, z1, A1⟩ := own_blk o1 (hne (by rw [arr_len tdV1_len, rowF_len, hl]; omega))
      obtain ⟨r2, s2, rfl, z2, A2⟩ := own_blk o2 (hne (by rw [arr_len tdV1_len, rowF_len, hl]; omega))
      rw [Int.toNat_natCast, Nat.zero_add]
      exact ⟨AA1.canSt (by omega), Ret.mk (k h1 r0 r1 r2 _ _ _ s0 s1 s2 (Heap.le_trans lg l1) z0 (none_of_le lg z1) (none_of_le lg z2) (A0.ne z1) (A0.ne z2) (fun e => n12 r1 rfl (by rw [e])) (A0.le l1) A1 A2)⟩
    | succ d ih =>
      intro j g q cq hj lg own
      refine L_pworth_Worths_Moved_0r _ _ _ _ _ _ _ _ _ ?_
      unfold L_pworth_Worths_Moved_0T
      refine Br.yes (by simp; omega) (withAddr_intro rfl ⟨_, (Aw.le lg).cell rfl, S_lGet (LA.le lg) ⟨_, rfl, push1 own (by decide) lg (by omega) rfl rfl (by rw [intsV_length, rowG_len]; simp) fun r h1 q' cq' h2 hr l1 l2 own' _ _ => ?_⟩⟩)
      rw [w1 (by omega)]
      refine ih (j + 1) h2 q' cq' (by omega) l2 ?_
      rw [rowG_succ, intsV_append]
      exact own'
  exact loop n 0 h none 0 rfl h.le_refl (OwnL.nil _ _ _)
end
end Go.Proofs.Ytghdadniddoboaa
