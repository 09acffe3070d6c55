/- Whether a table may be, tables of another rate or haircut, and the reference's: the same. -/
import Derived.Test.YtkcogdmddhkldaaTabSpec
namespace Go.Proofs.Ytkcogdmddhkldaa
open Go Go.Sy Go.Value
set_option linter.unusedVariables false
set_option linter.unusedSimpArgs false

section
variable {K : Value → Heap → Prop} {h h0 : Heap} {p : Option Addr} {l : List Cur} {n c : Nat}
theorem chk0 (C : Curs h0 p l) (hn : l.length = n) (hs : n ≤ 8) (k2 : l.all (fun x => capB x.code) = false → ∀ h', h0.le h' → K (.int .i64 2) h')
    (k : l.all (fun x => capB x.code) = true → ∀ h', h0.le h' → L_table_Check_1 p n c p n c n 0 h' K) :
    ∀ (m j : Nat) (h : Heap), m + j = n → h0.le h → l.all (fun x => capB x.code) = (l.drop j).all (fun x => capB x.code) → L_table_Check_0 p n c p n c n j h K := by
  intro m
  induction m with
  | zero =>
    intro j h hj lh e
    refine L_table_Check_0r _ _ _ _ _ _ _ _ _ _ ?_
    unfold L_table_Check_0T
    rw [List.drop_eq_nil_of_le (by omega), List.all_nil] at e
    exact Br.no (by simp; omega) (k e h lh)
  | succ m ih =>
    intro j h hj lh e
    refine L_table_Check_0r _ _ _ _ _ _ _ _ _ _ ?_
    unfold L_table_Check_0T
    have hx : l[j]? = some l[j] := List.getElem?_eq_getElem (by omega)
    rw [List.drop_eq_getElem_cons (by omega : j < l.length), List.all_cons] at e
    generalize l[j] = x at *
    refine Br.yes (by simp; omega) (cx3 (C.le lh) hn rfl hx ?_)
    intro r hr
    have A0 := At.new h r [string { data := #[] }, .int .i64 0, .int .i64 0] 106
    have l1 : h.le (h.ins r (.cells [string { data := #[] }, .int .i64 0, .int .i64 0].toArray 106 (0, 0))) := le_ins hr
    generalize h.ins r (.cells [string { data := #[] }, .int .i64 0, .int .i64 0].toArray 106 (0, 0)) = h1 at *
    refine ⟨A0.canSt (by decide), ?_⟩
    have A := A0.set (o := 0) (ws := [string x.code, .int .i64 x.rate, .int .i64 x.cut])
    have l2 : h.le (h1.setN r 0 [string x.code, .int .i64 x.rate, .int .i64 x.cut]) := le_setN l1 hr
    generalize h1.setN r 0 [string x.code, .int .i64 x.rate, .int .i64 x.cut] = h2 at *
    refine ⟨_, A.cell rfl, S_formed fun h3 l3 => ⟨_, rfl, ?_⟩⟩
    have l4 := Heap.le_trans lh (Heap.le_trans l2 l3)
    cases ec : capB x.code with
    | false =>
      rw [ec, Bool.false_and] at e
      exact Br.yes rfl (Ret.mk (k2 e _ l4))
    | true =>
      rw [ec, Bool.true_and] at e
      refine Br.no rfl ?_
      rw [wrap_i64_id (by omega) (by omega)]
      exact ih (j + 1) h3 (by omega) l4 e
theorem uniq_step {j : Nat} (hj : j < l.length) : uniqB (l.take j) (l.drop j) = (!dup (l.take j) l[j] && uniqB (l.take (j + 1)) (l.drop (j + 1))) := by
  rw [List.drop_eq_getElem_cons hj, uniqB, List.take_succ_eq_append_getElem hj]
theorem chk1 (C : Curs h0 p l) (hn : l.length = n) (hs : n ≤ 8) (k6 : uniqB [] l = false → ∀ h', h0.le h' → K (.int .i64 6) h')
    (k : uniqB [] l = true → ∀ h', h0.le h' → L_table_Check_2 p n c n 0 h' K) :
    ∀ (m j : Nat) (h : Heap), m + j = n → h0.le h → uniqB [] l = uniqB (l.take j) (l.drop j) → L_table_Check_1 p n c p n c n j h K := by
  intro m
  induction m with
  | zero =>
    intro j h hj lh e
    refine L_table_Check_1r _ _ _ _ _ _ _ _ _ _ ?_
    unfold L_table_Check_1T
    rw [List.drop_eq_nil_of_le (by omega)] at e
    exact Br.no (by simp; omega) (k e h lh)
  | succ m ih =>
    intro j h hj lh e
    refine L_table_Check_1r _ _ _ _ _ _ _ _ _ _ ?_
    unfold L_table_Check_1T
    have hjl : j < l.length := by omega
    have hx : l[j]? = some l[j] := List.getElem?_eq_getElem hjl
    rw [uniq_step hjl] at e
    have fa := find_at (l.take j) l[j] (l.drop (j + 1))
    rw [← List.drop_eq_getElem_cons hjl, List.take_append_drop, List.length_take, Nat.min_eq_left (by omega)] at fa
    generalize l[j] = x at *
    refine Br.yes (by simp; omega) (cx3 (C.le lh) hn rfl hx ?_)
    intro r hr
    have A0 := At.new h r [string { data := #[] }, .int .i64 0, .int .i64 0] 106
    have l1 : h.le (h.ins r (.cells [string { data := #[] }, .int .i64 0, .int .i64 0].toArray 106 (0, 0))) := le_ins hr
    generalize h.ins r (.cells [string { data := #[] }, .int .i64 0, .int .i64 0].toArray 106 (0, 0)) = h1 at *
    refine ⟨A0.canSt (by decide), ?_⟩
    have A := A0.set (o := 0) (ws := [string x.code, .int .i64 x.rate, .int .i64 x.cut])
    have l2 : h.le (h1.setN r 0 [string x.code, .int .i64 x.rate, .int .i64 x.cut]) := le_setN l1 hr
    generalize h1.setN r 0 [string x.code, .int .i64 x.rate, .int .i64 x.cut] = h2 at *
    refine ⟨_, A.cell rfl, S_Find ((C.le lh).le l2) hn (by omega) fun h3 l3 => ⟨_, _, rfl, ?_⟩⟩
    have l4 := Heap.le_trans lh (Heap.le_trans l2 l3)
    rcases fa with ⟨e1, d⟩ | ⟨i, e1, hi, d⟩
    · rw [d, Bool.not_false, Bool.true_and] at e
      rw [e1]
      refine Br.no (by simp) ?_
      rw [wrap_i64_id (by omega) (by omega)]
      exact ih (j + 1) h3 (by omega) l4 e
    · rw [d, Bool.not_true, Bool.false_and] at e
      rw [e1]
      refine Br.yes (by simp; omega) (Ret.mk (k6 e _ l4))
theorem chk2 (C : Curs h0 p l) (hn : l.length = n) (hs : n ≤ 8) (k : ∀ h', h0.le h' → K (.int .i64 (errB (fitsF 0 l))) h') :
    ∀ (m j : Nat) (h : Heap), m + j = n → h0.le h → fitsF 0 l = fitsF j (l.drop j) → L_table_Check_2 p n c n j h K := by
  intro m
  induction m with
  | zero =>
    intro j h hj lh e
    refine L_table_Check_2r _ _ _ _ _ _ _ ?_
    unfold L_table_Check_2T
    rw [List.drop_eq_nil_of_le (by omega)] at e
    have := k h lh
    rw [e] at this
    exact Br.no (by simp; omega) (Ret.mk this)
  | succ m ih =>
    intro j h hj lh e
    refine L_table_Check_2r _ _ _ _ _ _ _ ?_
    unfold L_table_Check_2T
    have hjl : j < l.length := by omega
    have hx : l[j]? = some l[j] := List.getElem?_eq_getElem hjl
    rw [List.drop_eq_getElem_cons hjl, fitsF_cons] at e
    generalize l[j] = x at *
    refine Br.yes (by simp; omega) (cx3 (C.le lh) hn rfl hx ?_)
    intro r hr
    have A0 := At.new h r [string { data := #[] }, .int .i64 0, .int .i64 0] 106
    have l1 : h.le (h.ins r (.cells [string { data := #[] }, .int .i64 0, .int .i64 0].toArray 106 (0, 0))) := le_ins hr
    generalize h.ins r (.cells [string { data := #[] }, .int .i64 0, .int .i64 0].toArray 106 (0, 0)) = h1 at *
    refine ⟨A0.canSt (by decide), ?_⟩
    have A := A0.set (o := 0) (ws := [string x.code, .int .i64 x.rate, .int .i64 x.cut])
    have l2 : h.le (h1.setN r 0 [string x.code, .int .i64 x.rate, .int .i64 x.cut]) := le_setN l1 hr
    generalize h1.setN r 0 [string x.code, .int .i64 x.rate, .int .i64 x.cut] = h2 at *
    refine ⟨_, A.cell rfl, _, A.cell rfl, _, A.cell rfl, S_fits fun h3 l3 => ⟨_, rfl, ?_⟩⟩
    have l4 := Heap.le_trans lh (Heap.le_trans l2 l3)
    cases ec : fitsB (j : Int) x with
    | false =>
      rw [ec, Bool.false_and] at e
      have := k _ l4
      rw [show fitsF 0 l = false from e] at this
      exact Br.yes rfl (Ret.mk this)
    | true =>
      rw [ec, Bool.true_and] at e
      refine Br.no rfl ?_
      rw [wrap_i64_id (by omega) (by omega)]
      exact ih (j + 1) h3 (by omega) l4 e
theorem S_Check (C : Curs h p l) (hn : l.length = n) (k : ∀ h', h.le h' → K (.int .i64 (tabE l)) h') : CallA Try.prog fn_table_Check [slice p n c] h K := by
  refine F_table_Check _ _ _ _ _ ?_
  unfold F_table_CheckT
  unfold tabE at k
  refine Br.intro (fun e => ?_) (fun e => Br.dec (fun e2 => ?_) (fun e2 => ?_))
  · have e : n = 0 := by simpa using e
    have := k h h.le_refl
    rw [if_pos (by omega)] at this
    exact Ret.mk this
  · have := k h h.le_refl
    rw [if_pos (by omega)] at this
    exact Ret.mk this
  · have e : n ≠ 0 := by simpa using e
    rw [if_neg (by omega)] at k
    refine chk0 C hn (by omega) (fun a h' l' => ?_) (fun a h' l' => ?_) n 0 h (by omega) h.le_refl rfl
    · have := k h' l'
      rw [if_neg (by rw [a]; decide)] at this
      exact this
    · rw [if_pos a] at k
      refine chk1 (C.le l') hn (by omega) (fun b h2 l2 => ?_) (fun b h2 l2 => ?_) n 0 h' (by omega) h'.le_refl rfl
      · have := k h2 (Heap.le_trans l' l2)
        rw [if_neg (by rw [b]; decide)] at this
        exact this
      · rw [if_pos b] at k
        exact chk2 ((C.le l').le l2) hn (by omega) (fun h3 l3 => k h3 (Heap.le_trans l' (Heap.le_trans l2 l3))) n 0 h2 (by omega) h2.le_refl rfl
/-! the reference's -/
theorem rchk0 (C : Curs h p l) (hn : l.length = n) (hs : n ≤ 8) (k2 : l.all (fun x => capB x.code) = false → K (.int .i64 2) h)
    (k : l.all (fun x => capB x.code) = true → L_ref03_Check_1 p n c 0 h K) :
    ∀ (m j : Nat), m + j = n → l.all (fun x => capB x.code) = (l.drop j).all (fun x => capB x.code) → L_ref03_Check_0 p n c j h K := by
  intro m
  induction m with
  | zero =>
    intro j hj e
    refine L_ref03_Check_0r _ _ _ _ _ _ ?_
    unfold L_ref03_Check_0T
    rw [List.drop_eq_nil_of_le (by omega), List.all_nil] at e
    exact Br.no (by simp; omega) (k e)
  | succ m ih =>
    intro j hj e
    refine L_ref03_Check_0r _ _ _ _ _ _ ?_
    unfold L_ref03_Check_0T
    have hx : l[j]? = some l[j] := List.getElem?_eq_getElem (by omega)
    rw [List.drop_eq_getElem_cons (by omega : j < l.length), List.all_cons] at e
    generalize l[j] = x at *
    refine Br.yes (by simp; omega) (cx0 C hn rfl hx (S_capital ⟨_, rfl, ?_⟩))
    cases ec : capB x.code with
    | false =>
      rw [ec, Bool.false_and] at e
      exact Br.yes rfl (Ret.mk (k2 e))
    | true =>
      rw [ec, Bool.true_and] at e
      refine Br.no rfl ?_
      rw [wrap_i64_id (by omega) (by omega)]
      exact ih (j + 1) (by omega) e
theorem rchk2 (C : Curs h p l) (hn : l.length = n) (hs : n ≤ 8) {i : Nat} {x : Cur} (hi : i < n) (hx : l[i]? = some x) (k6 : dup (l.take i) x = true → K (.int .i64 6) h) (k : dup (l.take i) x = false → L_ref03_Check_1 p n c ((i + 1 : Nat) : Int) h K) :
    ∀ (m j : Nat), m + j = i → dup (l.take i) x = dup ((l.take i).drop j) x → L_ref03_Check_2 p n c i j h K := by
  intro m
  induction m with
  | zero =>
    intro j hj e
    refine L_ref03_Check_2r _ _ _ _ _ _ _ ?_
    unfold L_ref03_Check_2T
    rw [List.drop_eq_nil_of_le (by rw [List.length_take]; omega)] at e
    refine Br.no (by simp; omega) ?_
    rw [wrap_i64_id (by omega) (by omega)]
    exact k e
  | succ m ih =>
    intro j hj e
    refine L_ref03_Check_2r _ _ _ _ _ _ _ ?_
    unfold L_ref03_Check_2T
    have hy : l[j]? = some l[j] := List.getElem?_eq_getElem (by omega)
    have hl : j < (l.take i).length := by rw [List.length_take]; omega
    rw [List.drop_eq_getElem_cons hl] at e
    unfold dup at e
    rw [List.any_cons, List.getElem_take] at e
    generalize l[j] = y at *
    refine Br.yes (by simp; omega) (cx0 C hn rfl hx (cx0 C hn rfl hy (Br.intro (fun es => ?_) (fun es => ?_))))
    · have es : sameC x.code y.code = true := es
      rw [sameC_comm y.code, es, Bool.true_or] at e
      exact Ret.mk (k6 e)
    · have es : sameC x.code y.code = false := es
      rw [sameC_comm y.code, es, Bool.false_or] at e
      rw [wrap_i64_id (by omega) (by omega)]
      exact ih (j + 1) (by omega) e
theorem rchk3 (C : Curs h p l) (hn : l.length = n) (hs : n ≤ 8) (k : K (.int .i64 (errB (l.all inbB))) h) :
    ∀ (m j : Nat), m + j = n → l.all inbB = (l.drop j).all inbB → L_ref03_Check_3 p n c j h K := by
  intro m
  induction m with
  | zero =>
    intro j hj e
    refine L_ref03_Check_3r _ _ _ _ _ _ ?_
    unfold L_ref03_Check_3T
    rw [List.drop_eq_nil_of_le (by omega), List.all_nil] at e
    rw [e] at k
    exact Br.no (by simp; omega) (Ret.mk k)
  | succ m ih =>
    intro j hj e
    refine L_ref03_Check_3r _ _ _ _ _ _ ?_
    unfold L_ref03_Check_3T
    have hx : l[j]? = some l[j] := List.getElem?_eq_getElem (by omega)
    rw [List.drop_eq_getElem_cons (by omega : j < l.length), List.all_cons] at e
    generalize l[j] = x at *
    unfold inbB at e
    have no : ∀ {P : Prop}, (P → ¬ (1 ≤ x.rate ∧ x.rate ≤ 100000000 ∧ 0 ≤ x.cut ∧ x.cut ≤ 10000)) → P → Ret h K (.int .i64 1) := fun hp y => by
      rw [decide_eq_false (hp y), Bool.false_and] at e
      have e : l.all inbB = false := e
      rw [e] at k
      exact Ret.mk k
    refine Br.yes (by simp; omega) (cx1 C hn rfl hx (Br.dec (no fun _ => by omega) fun g1 => ?_))
    refine cx1 C hn rfl hx (Br.dec (no fun _ => by omega) fun g2 => ?_)
    refine cx2 C hn rfl hx (Br.dec (no fun _ => by omega) fun g3 => ?_)
    refine cx2 C hn rfl hx (Br.dec (no fun _ => by omega) fun g4 => ?_)
    rw [decide_eq_true (by omega), Bool.true_and] at e
    rw [wrap_i64_id (by omega) (by omega)]
    exact ih (j + 1) (by omega) e
theorem rchk1 (C : Curs h p l) (hn : l.length = n) (hs : n ≤ 8) (h1 : 1 ≤ n) (k6 : uniqB [] l = false → K (.int .i64 6) h)
    (k : uniqB [] l = true → K (.int .i64 (errB (fitsF 0 l))) h) :
    ∀ (m j : Nat), m + j = n → uniqB [] l = uniqB (l.take j) (l.drop j) → L_ref03_Check_1 p n c j h K := by
  intro m
  induction m with
  | zero =>
    intro j hj e
    refine L_ref03_Check_1r _ _ _ _ _ _ ?_
    unfold L_ref03_Check_1T
    rw [List.drop_eq_nil_of_le (by omega)] at e
    have k := k e
    refine Br.no (by simp; omega) ?_
    match l, hn, C, k with
    | [], hn, C, k => simp at hn; omega
    | x :: r, hn, C, k =>
      rw [fitsF_cons, fitsF_succ] at k
      unfold fitsB at k
      rw [if_pos (by omega)] at k
      obtain ⟨b, o, ep, g0, g1, g2⟩ := C.at (j := 0) (x := x) rfl
      refine ⟨by omega, by omega, withAddr_intro ep ⟨_, by simpa using g1, Br.intro (fun e1 => ?_) (fun e1 => ⟨by omega, by omega, withAddr_intro ep ⟨_, by simpa using g2, Br.intro (fun e2 => ?_) (fun e2 => ?_)⟩⟩)⟩⟩
      · have : (x.rate == 10000) = false := by simpa using e1
        rw [this, Bool.false_and, Bool.false_and] at k
        exact Ret.mk k
      · have : (x.cut == 0) = false := by simpa using e2
        rw [this, Bool.and_false, Bool.false_and] at k
        exact Ret.mk k
      · have a1 : (x.rate == 10000) = true := by simpa using e1
        have a2 : (x.cut == 0) = true := by simpa using e2
        rw [a1, a2, Bool.true_and, Bool.true_and] at k
        have a3 : inbB x = true := by
          simp only [beq_iff_eq] at a1 a2
          unfold inbB
          simp; omega
        refine rchk3 C hn hs ?_ n 0 (by omega) rfl
        rw [List.all_cons, a3, Bool.true_and]
        exact k
  | succ m ih =>
    intro j hj e
    refine L_ref03_Check_1r _ _ _ _ _ _ ?_
    unfold L_ref03_Check_1T
    have hjl : j < l.length := by omega
    have hx : l[j]? = some l[j] := List.getElem?_eq_getElem hjl
    rw [uniq_step hjl] at e
    generalize l[j] = x at *
    refine Br.yes (by simp; omega) (rchk2 C hn hs (by omega) hx (fun d => ?_) (fun d => ?_) j 0 (by omega) rfl)
    · rw [d, Bool.not_true, Bool.false_and] at e
      exact k6 e
    · rw [d, Bool.not_false, Bool.true_and] at e
      exact ih (j + 1) (by omega) e
theorem S_RCheck (C : Curs h p l) (hn : l.length = n) (k : K (.int .i64 (tabE l)) h) : CallA Try.prog fn_ref03_Check [slice p n c] h K := by
  refine F_ref03_Check _ _ _ _ _ ?_
  unfold F_ref03_CheckT
  unfold tabE at k
  refine Br.dec (fun e => ?_) (fun e => Br.dec (fun e2 => ?_) (fun e2 => ?_))
  · rw [if_pos (by omega)] at k
    exact Ret.mk k
  · rw [if_pos (by omega)] at k
    exact Ret.mk k
  · rw [if_neg (by omega)] at k
    refine rchk0 C hn (by omega) (fun a => ?_) (fun a => ?_) n 0 (by omega) rfl
    · rw [if_neg (by rw [a]; decide)] at k
      exact k
    · rw [if_pos a] at k
      refine rchk1 C hn (by omega) (by omega) (fun b => ?_) (fun b => ?_) n 0 (by omega) rfl
      · rw [if_neg (by rw [b]; decide)] at k
        exact k
      · rw [if_pos b] at k
        exact k
end
end Go.Proofs.Ytkcogdmddhkldaa
