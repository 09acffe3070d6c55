/- The reference's ledger: swaps; made new; copied. -/
import Derived.Test.YtkcogdmddhkldaaXLed
namespace Go.Proofs.Ytkcogdmddhkldaa
open Go Go.Sy Go.Value
set_option linter.unusedVariables false
set_option linter.unusedSimpArgs false

theorem S_turn2 {a b : Int} (ha : I64 a) (hb : I64 b) {h : Heap} {Q : Int → Int → Heap → Prop} (k : ∀ h', h.le h' → Q (fit (a - b)).1 (fit (a - b)).2 h') :
    CallA Try.prog fn_ref01_Of [.int .i64 a] h fun (v : Value) (h : Heap) => ∃ (b1 : Bool), ∃ (a1 : Option Addr), ∃ (n : Nat), ∃ (m : Nat), v = agg #[Value.bool b1, slice a1 n m] ∧
      CallA Try.prog fn_ref01_Of [.int .i64 b] h fun (v : Value) (h : Heap) => ∃ (b2 : Bool), ∃ (a2 : Option Addr), ∃ (n2 : Nat), ∃ (m2 : Nat), v = agg #[Value.bool b2, slice a2 n2 m2] ∧
        CallA Try.prog fn_ref01_Turned [agg #[Value.bool b2, slice a2 n2 m2]] h fun (v : Value) (h : Heap) => ∃ (b2 : Bool), ∃ (a2 : Option Addr), ∃ (n2 : Nat), ∃ (m2 : Nat), v = agg #[Value.bool b2, slice a2 n2 m2] ∧
        CallA Try.prog fn_ref01_Add [agg #[Value.bool b1, slice a1 n m], agg #[Value.bool b2, slice a2 n2 m2]] h fun (v : Value) (h : Heap) => ∃ (b3 : Bool), ∃ (a3 : Option Addr), ∃ (n3 : Nat), ∃ (m3 : Nat), v = agg #[Value.bool b3, slice a3 n3 m3] ∧
          CallA Try.prog fn_ref01_Fit [agg #[Value.bool b3, slice a3 n3 m3]] h fun (v : Value) (h : Heap) => ∃ (x : Int), ∃ (e : Int), v = tuple #[.int .i64 x, .int .i64 e] ∧ Q x e h := by
  refine S_Of ha fun v1 h1 l1 bn1 => ?_
  have br1 := bn1.raw
  obtain ⟨n1, p1, c1, d1, rfl, _⟩ := bn1
  refine ⟨_, _, _, _, rfl, S_Of hb fun v2 h2 l2 bn2 => ?_⟩
  have br2 := bn2.raw
  obtain ⟨n2, p2, c2, d2, rfl, _⟩ := bn2
  refine ⟨_, _, _, _, rfl, S_Turned br2 (by omega) fun v5 h5 l5 bn5 => ?_⟩
  have br5 := bn5.raw
  obtain ⟨n5, p5, c5, d5, rfl, _⟩ := bn5
  refine ⟨_, _, _, _, rfl, S_Add_Big (br1.le (Heap.le_trans l2 l5)) br5 (Nat.le_refl _) (Nat.le_refl _) (by omega) fun v3 h3 l3 bn3 => ?_⟩
  have br3 := bn3.raw
  obtain ⟨n3, p3, c3, d3, rfl, _⟩ := bn3
  exact ⟨_, _, _, _, rfl, S_Fit br3 (by omega) fun h4 l4 => ⟨_, _, rfl, k h4 (Heap.le_trans l1 (Heap.le_trans l2 (Heap.le_trans l5 (Heap.le_trans l3 l4))))⟩⟩
section
variable {h0 h : Heap} {K : Value → Heap → Prop} {g : XFr} {S : Lg}
theorem S_xSwap (l0 : h0.le h) (fr : ∀ x, g.D S.M.length x = true → h0 x = none) (A : XAt h g S) {m get give got given : Int} (ha : I64 got) (hb : I64 given) (k : ∀ h', h0.le h' → XAt h' g (swapG S m get give got given).2 → K (.int .i64 (swapG S m get give got given).1) h') :
    CallA Try.prog fn_pref08_Ledger_Swap [pointer (some ⟨g.p, 0, none⟩), .int .i64 m, .int .i64 get, .int .i64 give, .int .i64 got, .int .i64 given] h K := by
  refine F_pref08_Ledger_Swap _ _ _ _ _ _ _ _ ?_
  unfold F_pref08_Ledger_SwapT
  unfold swapG at k
  refine S_xHas A ⟨_, rfl, ?_⟩
  by_cases h1 : hasB S m get = false
  · rw [if_pos h1] at k
    rw [h1]
    exact Br.yes rfl (Ret.mk (k h l0 A))
  rw [if_neg h1] at k
  have h1 : hasB S m get = true := by simpa using h1
  rw [h1]
  refine Br.no rfl (S_xHas A ⟨_, rfl, ?_⟩)
  by_cases h2 : hasB S m give = false
  · rw [if_pos h2] at k
    rw [h2]
    exact Br.yes rfl (Ret.mk (k h l0 A))
  rw [if_neg h2] at k
  have h2 : hasB S m give = true := by simpa using h2
  rw [h2]
  by_cases h3 : get = give
  · rw [if_pos h3] at k
    exact Br.no rfl (Br.yes (by simpa using h3) (Ret.mk (k h l0 A)))
  rw [if_neg h3] at k
  refine Br.no rfl (Br.no (by simpa using h3) (Br.dec (fun h4 => ?_) fun h4 => Br.dec (fun h5 => ?_) fun h5 => ?_))
  · rw [if_pos h4] at k
    exact Ret.mk (k h l0 A)
  · rw [if_neg h4, if_pos h5] at k
    exact Ret.mk (k h l0 A)
  rw [if_neg h4, if_neg h5] at k
  obtain ⟨i, j, rfl, rfl, hi, hj⟩ := hasB_t h1
  obtain ⟨i', v, e, rfl, _, hv⟩ := hasB_t h2
  have hne : v ≠ j := fun e => h3 (by rw [e])
  simp only [Int.toNat_natCast] at k
  refine L_pref08_Ledger_Swap_1003r _ _ _ _ _ _ _ _ ?_
  unfold L_pref08_Ledger_Swap_1003T
  refine A.getN hv (Br.dec (fun h6 => ?_) fun h6 => ?_)
  · rw [if_pos h6] at k
    exact Ret.mk (k h l0 A)
  rw [if_neg h6] at k
  refine L_pref08_Ledger_Swap_1005r _ _ _ _ _ _ _ _ ?_
  unfold L_pref08_Ledger_Swap_1005T
  refine A.getM hi hj (S_fit2 (A.sz.i64 i j) ha fun h1' l1 => (A.le l1).getN hj (S_fit2 (A.sz.n64 j) ha fun h2' l2 => ((A.le l1).le l2).getM hi hv (S_turn2 (A.sz.i64 i v) hb fun h3' l3 => ?_)))
  have l13 := Heap.le_trans l1 (Heap.le_trans l2 l3)
  have l03 := Heap.le_trans l0 l13
  have A0 := A.le l13
  by_cases h7 : (fit (rdM S.M i j + got)).2 ≠ 0
  · rw [if_pos h7] at k
    exact Br.yes (by simpa using h7) (Ret.mk (k h3' l03 A0))
  rw [if_neg h7] at k
  by_cases h9 : (fit (S.N.getD j 0 + got)).2 ≠ 0
  · rw [if_pos h9] at k
    exact Br.no (by simpa using h7) (Br.yes (by simpa using h9) (Ret.mk (k h3' l03 A0)))
  rw [if_neg h9] at k
  by_cases h10 : (fit (rdM S.M i v - given)).2 ≠ 0
  · rw [if_pos h10] at k
    exact Br.no (by simpa using h7) (Br.no (by simpa using h9) (Br.yes (by simpa using h10) (Ret.mk (k h3' l03 A0))))
  rw [if_neg h10] at k
  rw [fit_e h7, fit_e h9, fit_e h10]
  refine Br.no (by simpa using h7) (Br.no (by simpa using h9) (Br.no (by simpa using h10) ?_))
  refine L_pref08_Ledger_Swap_1010r _ _ _ _ _ _ _ _ _ _ ?_
  unfold L_pref08_Ledger_Swap_1010T
  have g2 := A.sz.n64 v
  unfold I64 at g2 hb
  have e2 : IntKind.wrap IntKind.i64 (S.N.getD v 0 - given) = S.N.getD v 0 - given := wrap_i64_id (by omega) (by omega)
  have A1 := A0.wrR (v := rdM S.M i j + got) hi hj (fit_in h7)
  have A2 := A1.wrN (v := S.N.getD j 0 + got) hj (fit_in h9)
  have hl : (wnG (wrG S i j (rdM S.M i j + got)) j (S.N.getD j 0 + got)).M.length = S.M.length := (A.sz.sh.wr hi).1
  have hi2 : i < (wnG (wrG S i j (rdM S.M i j + got)) j (S.N.getD j 0 + got)).M.length := by rw [hl]; exact hi
  have A3 := A2.wrR (i := i) (c := v) (v := rdM S.M i v - given) hi2 hv (fit_in h10)
  have A4 := A3.wrN (c := v) (v := S.N.getD v 0 - given) hv (by unfold I64; omega)
  have hnos := A3.nat hv
  have e3 : (wrG (wnG (wrG S i j (rdM S.M i j + got)) j (S.N.getD j 0 + got)) i v (rdM S.M i v - given)).N.getD v 0 = S.N.getD v 0 := by
    show (S.N.set j _).getD v 0 = _
    rw [getD_set _ _ _ _ (by rw [A.sz.N8]; have := A.sz.c8; omega), if_neg hne]
  rw [e3] at hnos
  have r1 := fr _ (XFr.D_f (g.f.D_row hi))
  have r2 := fr _ (g.D_q S.M.length)
  refine A0.putM hi hj ⟨A0.stR hi hj, A1.putN hj ⟨A1.stN hj, A2.putM hi2 hv ⟨A2.stR hi2 hv, withAddr_intro rfl ⟨_, _, _, A3.nos, withAddr_intro rfl ⟨_, _, _, A3.nos, by omega, by (show (v : Int) < (S.cur : Int); omega), withAddr_intro rfl ⟨_, hnos, by omega, by (show (v : Int) < (S.cur : Int); omega), withAddr_intro rfl ⟨A3.stN hv, Ret.mk ?_⟩⟩⟩⟩⟩⟩⟩
  rw [e2]
  exact k _ (le_setN (le_setN (le_setN (le_setN l03 r1) r2) r1) r2) A4
end
/-! rows, one by one, behind a pointer -/
structure XNew (h0 h : Heap) (x B : Nat) (bs : List Value) (w bc : Nat) (a : Option Addr) (C : Nat) (R CC : Nat → Nat) (SP : Nat → List Value) (M : Mx) : Prop where
  rb : RwB h0 h a C R CC SP M w
  ax : At h x [.slice a M.length C, .slice (some ⟨B, 0, none⟩) w bc]
  ab : At h B bs
  nx : h0 x = none
  nB : h0 B = none
  xB : B ≠ x
  dx : a ≠ some ⟨x, 0, none⟩
  dB : a ≠ some ⟨B, 0, none⟩
  rx : ∀ i, i < M.length → R i ≠ x
  rB : ∀ i, i < M.length → R i ≠ B
section
variable {h0 h : Heap} {x B w bc : Nat} {bs : List Value} {a : Option Addr} {C : Nat} {R CC : Nat → Nat} {SP : Nat → List Value} {M : Mx}
theorem XNew.le {h' : Heap} (I : XNew h0 h x B bs w bc a C R CC SP M) (l : h.le h') : XNew h0 h' x B bs w bc a C R CC SP M := { I with rb := I.rb.le l, ax := I.ax.le l, ab := I.ab.le l }
/-- one row more -/
theorem XNew.push {t T : TypeId} (I : XNew h0 h x B bs w bc a C R CC SP M) {r c : Nat} {row : List Int} {sp : List Value} (nr : h0 r = none) (ar : At h r (intsV .i64 row ++ sp)) (na : a ≠ some ⟨r, 0, none⟩) (nR : ∀ i, i < M.length → R i ≠ r) (rx' : r ≠ x) (rB' : r ≠ B) (hw : row.length = w) (hs : M.length ≤ 1000) {n : Nat} (hn : M.length = n) {Q : Heap → Prop}
    (k : ∀ h' a' C' R' CC' SP', XNew h0 h' x B bs w bc a' C' R' CC' SP' (M ++ [row]) → Q h') :
    newB h [.slice (some ⟨r, 0, none⟩) w c] T fun s h1 => AppA [.slice none 0 0] t h1 a n C 1 (some ⟨s, 0, none⟩) fun a' C' h' => h'.canSt x 0 1 ∧ Q (h'.setN x 0 [.slice a' (n + 1) C']) := by
  refine I.rb.push nr ar na nR hw (by omega) hn fun s3 h3 a3 C3 h4 hs3 l3 I4 keep4 how4 => ?_
  have Ax3 := I.ax.le l3
  have Ab3 := I.ab.le l3
  have Ax4 := keepAt keep4 Ax3 I.dx
  refine ⟨Ax4.canSt (by simp), ?_⟩
  have dx4 := push_ne how4 Ax3 I.dx
  have dB4 := push_ne how4 Ab3 I.dB
  have rx4 : ∀ i, i < (M ++ [row]).length → (if i = M.length then r else R i) ≠ x := fun i hi => by
    rw [List.length_append, List.length_singleton] at hi
    split
    · exact rx'
    · exact I.rx i (by omega)
  have rB4 : ∀ i, i < (M ++ [row]).length → (if i = M.length then r else R i) ≠ B := fun i hi => by
    rw [List.length_append, List.length_singleton] at hi
    split
    · exact rB'
    · exact I.rB i (by omega)
  have Ax5 := Ax4.set (o := 0) (ws := [.slice a3 (n + 1) C3])
  have Ab5 := (keepAt keep4 Ab3 I.dB).set_ne (o := 0) (ws := [.slice a3 (n + 1) C3]) I.xB
  have hl5 : (M ++ [row]).length = n + 1 := by rw [List.length_append, hn]; rfl
  exact k _ a3 C3 _ _ _ ⟨I4.set I.nx dx4 rx4, by rw [hl5]; exact Ax5, Ab5, I.nx, I.nB, I.xB, dx4, dB4, rx4, rB4⟩
theorem XNew.ne (I : XNew h0 h x B bs w bc a C R CC SP M) {r : Nat} (hr : h r = none) : r ≠ x ∧ r ≠ B := ⟨fun e => I.ax.ne hr e.symm, fun e => I.ab.ne hr e.symm⟩
theorem XNew.fin {S : Lg} {qs : List Value} (I : XNew h0 h x B (intsV .i64 (S.N.take S.cur) ++ qs) S.cur bc a C R CC SP (cutM S)) (o : S.Sz) : ∃ g : XFr, g.p = x ∧ XAt h g S ∧ ∀ y, g.D S.M.length y = true → h0 y = none := by
  obtain ⟨rs, A, hf⟩ := I.rb.fin
  have hl := cutM_len S
  have nD : ∀ y, a ≠ some ⟨y, 0, none⟩ → (∀ i, i < (cutM S).length → R i ≠ y) → (⟨a, C, rs, R, CC, SP⟩ : Rws).D S.M.length y = false := fun y h1 h2 => by
    cases hd : (⟨a, C, rs, R, CC, SP⟩ : Rws).D S.M.length y with
    | false => rfl
    | true =>
      rcases Rws.D_t hd with ⟨_, e⟩ | ⟨i, hi, e⟩
      · exact (h1 e).elim
      · exact (h2 i (by omega) e).elim
  refine ⟨⟨x, ⟨a, C, rs, R, CC, SP⟩, B, bc, qs⟩, rfl, ⟨by rw [← hl]; exact I.ax, A, I.ab, nD x I.dx I.rx, I.xB, nD B I.dB I.rB, o⟩, fun y hy => ?_⟩
  rcases XFr.D_t hy with rfl | rfl | e
  · exact I.nx
  · exact I.nB
  · exact hf y (by rw [hl]; exact e)
end
section
variable {h0 h : Heap} {K : Value → Heap → Prop} {g : XFr} {S : Lg}
theorem S_xCopy (A : XAt h g S) (k : ∀ h' g', h.le h' → XAt h' g' S → (∀ y, g'.D S.M.length y = true → h y = none) → K (pointer (some ⟨g'.p, 0, none⟩)) h') : CallA Try.prog fn_pref08_Ledger_Copy [pointer (some ⟨g.p, 0, none⟩)] h K := by
  refine F_pref08_Ledger_Copy _ _ _ ?_
  unfold F_pref08_Ledger_CopyT
  have n16 := A.sz.n16
  have c1 := A.sz.c1
  have c8 := A.sz.c8
  have N8 := A.sz.N8
  have hl := cutM_len S
  have hNl : (S.N.take S.cur).length = S.cur := by rw [List.length_take]; omega
  intro r hr
  refine withAddr_intro rfl ⟨_, _, _, (A.le (le_ins hr)).nos, ?_⟩
  refine (own_new hr).push2 (by decide) (le_ins hr) (by omega) (ws := intsV .i64 (S.N.take S.cur)) (by rw [intsV_length, hNl]; simp) ((A.le (le_ins hr)).nd.toRd) (allCells_ints _ _) rfl fun p' c' h1 l1 w1' keep1 how1 => ?_
  rw [List.nil_append] at w1'
  rcases w1' with ⟨e, _, _⟩ | ⟨B, sp, rfl, nB, AB, _⟩
  · have := congrArg List.length e
    rw [intsV_length, hNl, List.length_nil] at this
    omega
  refine newB_at fun x h2 hx l2 Ax => ?_
  rw [Nat.zero_add] at Ax
  have l12 := Heap.le_trans l1 l2
  have main : ∀ (m j : Nat) (h3 : Heap) (a : Option Addr) (C : Nat) (R CC : Nat → Nat) (SP : Nat → List Value), m + j = S.M.length → XNew h h3 x B (intsV .i64 (S.N.take S.cur) ++ sp) S.cur c' a C R CC SP ((cutM S).take j) → L_pref08_Ledger_Copy_0 (some ⟨g.p, 0, none⟩) x (j : Int) h3 K := by
    intro m
    induction m with
    | zero =>
      intro j h3 a C R CC SP hj I
      refine L_pref08_Ledger_Copy_0r _ _ _ _ _ ?_
      unfold L_pref08_Ledger_Copy_0T
      rw [show (cutM S).take j = cutM S from List.take_of_length_le (by omega)] at I
      obtain ⟨g', ep, A', hf⟩ := I.fin A.sz
      have := k h3 g' I.rb.base A' hf
      rw [ep] at this
      exact withAddr_intro rfl ⟨_, _, _, (A.le I.rb.base).rows, Br.no (by simp; omega) (Ret.mk this)⟩
    | succ m ih =>
      intro j h3 a C R CC SP hj I
      refine L_pref08_Ledger_Copy_0r _ _ _ _ _ ?_
      unfold L_pref08_Ledger_Copy_0T
      have base := I.rb.base
      have A3 := A.le base
      have hjl : j < S.M.length := by omega
      have hjc : j < (cutM S).length := by omega
      obtain ⟨B2, eB2, hcl⟩ := A3.rw.cl hjc
      have htl : ((cutM S).take j).length = j := by rw [List.length_take]; omega
      have hrow := A3.rw.sh.row hjc
      have htk : (cutM S).take (j + 1) = (cutM S).take j ++ [(cutM S).getD j []] := by rw [List.take_add_one, List.getD_eq_getElem?_getD, List.getElem?_eq_getElem hjc]; rfl
      have ax3 := I.ax
      rw [htl] at ax3
      refine withAddr_intro rfl ⟨_, _, _, A3.rows, Br.yes (by simp; omega) ⟨_, _, _, ax3.cell rfl, withAddr_intro rfl ⟨_, _, _, A3.rows, by omega, by omega, withAddr_intro eB2 ⟨_, _, _, hcl, fun s hs => ?_⟩⟩⟩⟩
      refine (own_new hs).push2 (by decide) (le_ins hs) (by omega) (ws := intsV .i64 ((cutM S).getD j [])) (by rw [intsV_length, hrow]; simp) ((A3.le (le_ins hs)).rw.row j hjc).toRd (allCells_ints _ _) rfl fun p5 c5 h5 l5 w5 keep5 how5 => ?_
      rw [List.nil_append] at w5
      rcases w5 with ⟨e, _, _⟩ | ⟨r5, sp5, rfl, nr5, A5, _⟩
      · have := congrArg List.length e
        rw [intsV_length, hrow, List.length_nil] at this
        omega
      refine ⟨.inr fun b hb yy hy => ?_, ?_⟩
      · rw [List.mem_singleton] at hb
        subst hb
        exact keep5 b yy hy fun e => by cases e; exact I.ax.ne hs rfl
      · rw [Nat.zero_add]
        have fr := I.rb.fresh nr5
        have ne5 := I.ne nr5
        refine (I.le l5).push (Q := fun h' => L_pref08_Ledger_Copy_0 (some ⟨g.p, 0, none⟩) x (IntKind.wrap .i64 ((j : Int) + 1)) h' K) (none_of_le base nr5) A5 fr.1 fr.2 ne5.1 ne5.2 hrow (by omega) htl fun h6 a6 C6 R6 CC6 SP6 I6 => ?_
        rw [w1 (by omega)]
        rw [← htk] at I6
        exact ih (j + 1) h6 a6 C6 R6 CC6 SP6 (by omega) I6
  exact main S.M.length 0 h2 none 0 (fun _ => 0) (fun _ => 0) (fun _ => []) (by omega) ⟨RwB.nil _ _ l12 _, Ax, AB.le l2, none_of_le l1 hx, nB, AB.ne hx, fun e => (by cases e), fun e => (by cases e), fun i hi => absurd hi (by simp), fun i hi => absurd hi (by simp)⟩
theorem newG_cut (n w : Nat) (hw : w ≤ 8) : cutM (newG n w) = List.replicate n (List.replicate w 0) ∧ (newG n w).N.take (newG n w).cur = List.replicate w 0 := by
  constructor
  · show (List.replicate n (List.replicate 8 (0 : Int))).map (·.take w) = _
    rw [List.map_replicate, List.take_replicate, Nat.min_eq_left hw]
  · show (List.replicate 8 (0 : Int)).take w = _
    rw [List.take_replicate, Nat.min_eq_left hw]
theorem repL_zero (n : Nat) : repL n [Value.int .i64 0] = intsV .i64 (List.replicate n 0) := by
  induction n with
  | zero => rfl
  | succ n ih => rw [List.replicate_succ, intsV, ← ih]; rfl
theorem S_xNew {m c : Int} (k1 : ¬ (1 ≤ m ∧ m ≤ 16 ∧ 1 ≤ c ∧ c ≤ 8) → K (tuple #[.pointer none, .int .i64 1]) h)
    (k2 : ∀ n w : Nat, m = (n : Int) → c = (w : Int) → 1 ≤ n → n ≤ 16 → 1 ≤ w → w ≤ 8 → ∀ h' g, h.le h' → XAt h' g (newG n w) → (∀ y, g.D n y = true → h y = none) → K (tuple #[.pointer (some ⟨g.p, 0, none⟩), .int .i64 0]) h') :
    CallA Try.prog fn_ref08_New [.int .i64 m, .int .i64 c] h K := by
  refine F_ref08_New _ _ _ _ ?_
  unfold F_ref08_NewT
  refine Br.dec (fun h1 => Ret.mk (k1 (by omega))) fun h1 => Br.dec (fun h2 => Ret.mk (k1 (by omega))) fun h2 => Br.dec (fun h3 => Ret.mk (k1 (by omega))) fun h3 => Br.dec (fun h4 => Ret.mk (k1 (by omega))) fun h4 => ?_
  obtain ⟨n, rfl⟩ : ∃ n : Nat, m = n := ⟨m.toNat, by omega⟩
  obtain ⟨w, rfl⟩ : ∃ w : Nat, c = w := ⟨c.toNat, by omega⟩
  have o := (newG_ok (n := n) (c := w) (by omega) (by omega) (by omega) (by omega)).toSz
  obtain ⟨ec, eN⟩ := newG_cut n w (by omega)
  refine ⟨by omega, by omega, by omega, by omega, newB_at fun B h1 hB l1 AB => newB_at fun x h2 hx l2 Ax => ?_⟩
  rw [Int.toNat_natCast, repL_zero] at AB
  rw [Int.toNat_natCast] at Ax
  have l12 := Heap.le_trans l1 l2
  have main : ∀ (m j : Nat) (h3 : Heap) (a : Option Addr) (C : Nat) (R CC : Nat → Nat) (SP : Nat → List Value), m + j = n → XNew h h3 x B (intsV .i64 (List.replicate w 0) ++ []) w w a C R CC SP (List.replicate j (List.replicate w 0)) → L_ref08_New_0 (n : Int) (w : Int) x (j : Int) h3 K := by
    intro m
    induction m with
    | zero =>
      intro j h3 a C R CC SP hj I
      refine L_ref08_New_0r _ _ _ _ _ _ ?_
      unfold L_ref08_New_0T
      have hjn : j = n := by omega
      subst hjn
      rw [← ec, ← eN] at I
      obtain ⟨g', ep, A', hf⟩ := I.fin o
      have := k2 j w rfl rfl (by omega) (by omega) (by omega) (by omega) h3 g' I.rb.base A' (fun y hy => hf y (by unfold newG; rw [List.length_replicate]; exact hy))
      rw [ep] at this
      exact Br.no (by simp) (Ret.mk this)
    | succ m ih =>
      intro j h3 a C R CC SP hj I
      refine L_ref08_New_0r _ _ _ _ _ _ ?_
      unfold L_ref08_New_0T
      have base := I.rb.base
      have htl : (List.replicate j (List.replicate w (0 : Int))).length = j := List.length_replicate
      have ax3 := I.ax
      rw [htl] at ax3
      refine Br.yes (by simp; omega) ⟨_, _, _, ax3.cell rfl, by omega, by omega, by omega, by omega, newB_at fun r5 h5 nr5 l5 A5 => ?_⟩
      rw [Int.toNat_natCast, repL_zero] at A5
      rw [Int.toNat_natCast]
      have fr := I.rb.fresh nr5
      have ne5 := I.ne nr5
      refine (I.le l5).push (Q := fun h' => L_ref08_New_0 (n : Int) (w : Int) x (IntKind.wrap .i64 ((j : Int) + 1)) h' K) (row := List.replicate w 0) (sp := []) (none_of_le base nr5) (by rw [List.append_nil]; exact A5) fr.1 fr.2 ne5.1 ne5.2 List.length_replicate (by omega) htl fun h6 a6 C6 R6 CC6 SP6 I6 => ?_
      rw [w1 (by omega)]
      rw [← List.replicate_succ'] at I6
      exact ih (j + 1) h6 a6 C6 R6 CC6 SP6 (by omega) I6
  exact main n 0 h2 none 0 (fun _ => 0) (fun _ => 0) (fun _ => []) (by omega) ⟨RwB.nil _ _ l12 _, Ax, by rw [List.append_nil]; exact AB.le l2, none_of_le l1 hx, hB, AB.ne hx, fun e => (by cases e), fun e => (by cases e), fun i hi => absurd hi (by simp), fun i hi => absurd hi (by simp)⟩
end
end Go.Proofs.Ytkcogdmddhkldaa
